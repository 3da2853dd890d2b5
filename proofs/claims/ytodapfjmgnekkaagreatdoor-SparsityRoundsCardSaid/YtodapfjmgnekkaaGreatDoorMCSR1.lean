/- Parts of the proof: WA, Fr, N1. -/
import Derived.Test.YtodapfjmgnekkaaGreatDoorProg
import Derived.WalkKit
import Derived.WalkSpells
import Derived.WalkLawsBesides
import Derived.Laws.BitsAllLaws
import Derived.Lib.TrailingZeros
import Derived.Laws.Bits64b
import Derived.Deep.QuietTactic
import Derived.BigQuiet
import Derived.Lib.Hide
import Derived.Test.YtodapfjmgnekkaaGreatDoorCards
import Derived.Test.YtodapfjmgnekkaaGreatDoorTie
import Derived.ProofKit
import Derived.OpenShut
import Derived.Carry
import Derived.Deep.Slices
import Derived.Deep.Matrix
import Derived.Deep.DeepHandedRow
import Derived.Lib.LaidTab
import Derived.Lib.ItoaNum
import Derived.Test.YtodapfjmgnekkaaGreatDoorMCSR0
section
/- What the small functions of package graph and of math/bits compute: sets of numbers below 64 as bits. -/
namespace Go.Gr
def bset (s i : Nat) : Nat := s ||| (1 <<< i)
def andn (a b : Nat) : Nat := a &&& (18446744073709551615 - b)
def bclr (s i : Nat) : Nat := andn s (1 <<< i)
def firstN (n : Nat) : Nat := (1 <<< n) - 1
theorem shl_lt (i : Nat) (hi : i < 64) : 1 <<< i < 18446744073709551616 := by
  have h : (2 : Nat) ^ i < 2 ^ 64 := Nat.pow_lt_pow_right (by omega) hi
  rw [Nat.one_shiftLeft]; omega
theorem bset_lt {s i : Nat} (hs : s < 18446744073709551616) (hi : i < 64) : bset s i < 18446744073709551616 :=
  Nat.or_lt_two_pow (n := 64) (by omega) (shl_lt i hi)
theorem and_lt {a : Nat} (b : Nat) (ha : a < 18446744073709551616) : a &&& b < 18446744073709551616 :=
  Nat.lt_of_le_of_lt Nat.and_le_left ha
theorem andn_lt {a : Nat} (b : Nat) (ha : a < 18446744073709551616) : andn a b < 18446744073709551616 := and_lt _ ha
theorem bclr_lt {s : Nat} (i : Nat) (hs : s < 18446744073709551616) : bclr s i < 18446744073709551616 := andn_lt _ hs
theorem or_lt {a b : Nat} (ha : a < 18446744073709551616) (hb : b < 18446744073709551616) : a ||| b < 18446744073709551616 := Nat.or_lt_two_pow (n := 64) (by omega) (by omega)
theorem firstN_lt {n : Nat} (hn : n ≤ 64) : firstN n < 18446744073709551616 := by
  have h : (2 : Nat) ^ n ≤ 2 ^ 64 := Nat.pow_le_pow_right (by omega) hn
  have h0 : 0 < (2 : Nat) ^ n := Nat.two_pow_pos n
  unfold firstN
  rw [Nat.one_shiftLeft]; omega
theorem wrap_pow (i : Nat) (hi : i < 64) : IntKind.u64.wrap ((2 : Int) ^ i) = ((1 <<< i : Nat) : Int) := by
  have h := shl_lt i hi
  have h2 : ((2 : Int) ^ i) = ((1 <<< i : Nat) : Int) := by rw [Nat.one_shiftLeft]; simp
  rw [IntKind.wrap_u64, h2]
  generalize 1 <<< i = q at *
  omega
end Go.Gr
namespace Go.Proofs.Tg
open Go.RowKit Go.Gr
/-- The library's table of the places of single bits. -/
def Tab (w : World) : Prop := 0 < w.heap.size ∧ ∀ j, j < 64 → w.cell? ⟨0, j, none⟩ = some (.int .u8 (Lib.deBruijn64tab.getD j 0))
theorem Tab.below {B : Nat} {w w' : World} (h : Tab w) (hb : Below B w w') (hB : 0 < B) : Tab w' :=
  ⟨Nat.lt_of_lt_of_le h.1 hb.size, fun j hj => (hb.cell (p := ⟨0, j, none⟩) hB).trans (h.2 j hj)⟩
theorem Tab.drewN {w : World} (h : Tab w) (n : Nat) : Tab (w.drewN n) := h
set_option maxHeartbeats 400000
theorem with_any (s i : Nat) (w : World) (hs : s < 18446744073709551616) (hi : i < 64) :
    Calls Tryz.prog 47 #[.int .u64 s, .int .i64 i] w fun e w' => e = .returned (.int .u64 (bset s i : Nat)) ∧ w = w' := by
  go_enter Tryz.func47, Tryz.ntmps47
  go_wp2
  go_ret
  refine ⟨?_, rfl⟩
  show Ending.returned (.int .u64 _) = _
  rw [wrap_pow i hi, u64_or_nat s _ hs (shl_lt i hi)]
  rfl
theorem without_any (s i : Nat) (w : World) (hs : s < 18446744073709551616) (hi : i < 64) :
    Calls Tryz.prog 91 #[.int .u64 s, .int .i64 i] w fun e w' => e = .returned (.int .u64 (bclr s i : Nat)) ∧ w = w' := by
  go_enter Tryz.func91, Tryz.ntmps91
  go_wp2
  go_ret
  refine ⟨?_, rfl⟩
  show Ending.returned (.int .u64 _) = _
  rw [wrap_pow i hi, u64_andNot_nat s _ hs (shl_lt i hi)]
  rfl
theorem has_key (s i : Nat) (hs : s < 18446744073709551616) : (bits BinOp.and IntKind.u64 ((s : Int) / 2 ^ i) 1 == 1) = s.testBit i := by
  have e : ((s : Int) / 2 ^ i) = ((s / 2 ^ i : Nat) : Int) := by simp
  have hl : s / 2 ^ i < 18446744073709551616 := Nat.lt_of_le_of_lt (Nat.div_le_self _ _) hs
  rw [e, show (1 : Int) = ((1 : Nat) : Int) from rfl, u64_and_nat _ 1 hl (by omega), Nat.and_one_is_mod, Nat.testBit_eq_decide_div_mod_eq]
  rw [Bool.eq_iff_iff]
  simp only [beq_iff_eq, decide_eq_true_eq]
  omega
theorem has_any (s i : Nat) (w : World) (hs : s < 18446744073709551616) (hi : i < 64) :
    Calls Tryz.prog 46 #[.int .u64 s, .int .i64 i] w fun e w' => e = .returned (.bool (s.testBit i)) ∧ w = w' := by
  go_enter Tryz.func46, Tryz.ntmps46
  go_wp2
  go_ret
  refine ⟨?_, rfl⟩
  show Ending.returned (.bool _) = _
  rw [has_key s i hs]
theorem first_any (n : Nat) (w : World) (hn : n ≤ 64) :
    Calls Tryz.prog 89 #[.int .i64 n] w fun e w' => e = .returned (.int .u64 (firstN n : Nat)) ∧ w = w' := by
  by_cases h : n = 64
  · subst h
    go_enter Tryz.func89, Tryz.ntmps89
    go_wp2
    go_ret
    refine ⟨?_, rfl⟩
    show Ending.returned (.int .u64 _) = _
    have : ((firstN 64 : Nat) : Int) = 18446744073709551615 := by decide +kernel
    rw [this]
  · have hlt : n < 64 := by omega
    clear h hn
    go_enter Tryz.func89, Tryz.ntmps89
    go_wp2
    go_ret
    refine ⟨?_, rfl⟩
    show Ending.returned (.int .u64 _) = _
    rw [wrap_pow n hlt]
    have h1 := shl_lt n hlt
    have h0 : 0 < 1 <<< n := by rw [Nat.one_shiftLeft]; exact Nat.two_pow_pos n
    have : IntKind.u64.wrap (((1 <<< n : Nat) : Int) - 1) = ((firstN n : Nat) : Int) := by
      rw [IntKind.wrap_u64]; unfold firstN; omega
    rw [this]
/-- The steps of OnesCount64. -/
def oc1 (x : Int) : Int := IntKind.u64.wrap (bits BinOp.and IntKind.u64 (x / 2) 6148914691236517205 + bits BinOp.and IntKind.u64 x 6148914691236517205)
def oc2 (x : Int) : Int := IntKind.u64.wrap (bits BinOp.and IntKind.u64 (x / 4) 3689348814741910323 + bits BinOp.and IntKind.u64 x 3689348814741910323)
def oc3 (x : Int) : Int := bits BinOp.and IntKind.u64 (IntKind.u64.wrap (x / 16 + x)) 1085102592571150095
def oc4 (x : Int) : Int := IntKind.u64.wrap (x + x / 256)
def oc5 (x : Int) : Int := IntKind.u64.wrap (x + x / 65536)
def oc6 (x : Int) : Int := IntKind.u64.wrap (x + x / 4294967296)
theorem wrap_nat (n : Nat) (h : n < 18446744073709551616) : IntKind.u64.wrap (n : Int) = (n : Int) := by rw [IntKind.wrap_u64]; omega
theorem oc1_nat (x : Nat) (hx : x < 18446744073709551616) : oc1 (x : Int) = (((x / 2 &&& 6148914691236517205) + (x &&& 6148914691236517205) : Nat) : Int) := by
  unfold oc1
  have h1 : x / 2 &&& 6148914691236517205 ≤ 6148914691236517205 := Nat.and_le_right
  have h2 : x &&& 6148914691236517205 ≤ 6148914691236517205 := Nat.and_le_right
  rw [show (x : Int) / 2 = ((x / 2 : Nat) : Int) by simp, show (6148914691236517205 : Int) = ((6148914691236517205 : Nat) : Int) from rfl, u64_and_nat _ _ (by omega) (by omega), u64_and_nat _ _ hx (by omega), ← Int.natCast_add]
  exact wrap_nat _ (by omega)
theorem oc2_nat (x : Nat) (hx : x < 18446744073709551616) : oc2 (x : Int) = (((x / 4 &&& 3689348814741910323) + (x &&& 3689348814741910323) : Nat) : Int) := by
  unfold oc2
  have h1 : x / 4 &&& 3689348814741910323 ≤ 3689348814741910323 := Nat.and_le_right
  have h2 : x &&& 3689348814741910323 ≤ 3689348814741910323 := Nat.and_le_right
  rw [show (x : Int) / 4 = ((x / 4 : Nat) : Int) by simp, show (3689348814741910323 : Int) = ((3689348814741910323 : Nat) : Int) from rfl, u64_and_nat _ _ (by omega) (by omega), u64_and_nat _ _ hx (by omega), ← Int.natCast_add]
  exact wrap_nat _ (by omega)
theorem oc3_nat (x : Nat) (hx : x ≤ 7378697629483820646) : oc3 (x : Int) = (((x / 16 + x) &&& 1085102592571150095 : Nat) : Int) := by
  unfold oc3
  rw [show (x : Int) / 16 + (x : Int) = ((x / 16 + x : Nat) : Int) by simp, wrap_nat _ (by omega), show (1085102592571150095 : Int) = ((1085102592571150095 : Nat) : Int) from rfl, u64_and_nat _ _ (by omega) (by omega)]
theorem oc_add (f : Int → Int) (m : Nat) (hf : ∀ x, f x = IntKind.u64.wrap (x + x / m)) (low q : Nat) (hl : low < m) (hb : low + m * q + q < 18446744073709551616) : f ((low + m * q : Nat) : Int) = ((low + m * q + q : Nat) : Int) := by
  have hd : (low + m * q) / m = q := by rw [Nat.add_mul_div_left _ _ (by omega), Nat.div_eq_of_lt hl, Nat.zero_add]
  rw [hf, ← Int.natCast_ediv, hd, ← Int.natCast_add]
  exact wrap_nat _ hb
theorem oc_all (s : Nat) (hs : s < 18446744073709551616) : bits BinOp.and IntKind.i64 (wrap64 (oc6 (oc5 (oc4 (oc3 (oc2 (oc1 s))))))) 127 = ((size s : Nat) : Int) := by
  have h1 : s / 2 &&& 6148914691236517205 ≤ 6148914691236517205 := Nat.and_le_right
  have h2 : s &&& 6148914691236517205 ≤ 6148914691236517205 := Nat.and_le_right
  rw [oc1_nat s hs]
  generalize ha : (s / 2 &&& 6148914691236517205) + (s &&& 6148914691236517205) = a
  have ha' : a < 18446744073709551616 := by omega
  have h3 : a / 4 &&& 3689348814741910323 ≤ 3689348814741910323 := Nat.and_le_right
  have h4 : a &&& 3689348814741910323 ≤ 3689348814741910323 := Nat.and_le_right
  rw [oc2_nat a ha', oc3_nat _ (by omega)]
  obtain ⟨c0, c1, c2, c3, c4, c5, c6, c7, b0, b1, b2, b3, b4, b5, b6, b7, hp, hw⟩ := swar_bits s
  have hsw : swar s = (((a / 4 &&& 3689348814741910323) + (a &&& 3689348814741910323)) / 16 + ((a / 4 &&& 3689348814741910323) + (a &&& 3689348814741910323))) &&& 1085102592571150095 := by
    unfold swar; dsimp only; rw [ha]
  rw [← hsw, hw, size_popc, hp]
  clear hsw hw hp h1 h2 h3 h4 ha ha'
  have e4 := oc_add oc4 256 (fun _ => rfl) (c0) (c1 + 256 * c2 + 65536 * c3 + 16777216 * c4 + 4294967296 * c5 + 1099511627776 * c6 + 281474976710656 * c7) (by omega) (by omega)
  have e5 := oc_add oc5 65536 (fun _ => rfl) ((c0 + c1) + 256 * (c1 + c2)) ((c2 + c3) + 256 * (c3 + c4) + 65536 * (c4 + c5) + 16777216 * (c5 + c6) + 4294967296 * (c6 + c7) + 1099511627776 * c7) (by omega) (by omega)
  have e6 := oc_add oc6 4294967296 (fun _ => rfl) ((c0 + c1 + c2 + c3) + 256 * (c1 + c2 + c3 + c4) + 65536 * (c2 + c3 + c4 + c5) + 16777216 * (c3 + c4 + c5 + c6)) ((c4 + c5 + c6 + c7) + 256 * (c5 + c6 + c7) + 65536 * (c6 + c7) + 16777216 * c7) (by omega) (by omega)
  rw [show c0 + 256 * c1 + 65536 * c2 + 16777216 * c3 + 4294967296 * c4 + 1099511627776 * c5 + 281474976710656 * c6 + 72057594037927936 * c7 = c0 + 256 * (c1 + 256 * c2 + 65536 * c3 + 16777216 * c4 + 4294967296 * c5 + 1099511627776 * c6 + 281474976710656 * c7) by omega, e4,
    show c0 + 256 * (c1 + 256 * c2 + 65536 * c3 + 16777216 * c4 + 4294967296 * c5 + 1099511627776 * c6 + 281474976710656 * c7) + (c1 + 256 * c2 + 65536 * c3 + 16777216 * c4 + 4294967296 * c5 + 1099511627776 * c6 + 281474976710656 * c7) =
      ((c0 + c1) + 256 * (c1 + c2)) + 65536 * ((c2 + c3) + 256 * (c3 + c4) + 65536 * (c4 + c5) + 16777216 * (c5 + c6) + 4294967296 * (c6 + c7) + 1099511627776 * c7) by omega, e5,
    show ((c0 + c1) + 256 * (c1 + c2)) + 65536 * ((c2 + c3) + 256 * (c3 + c4) + 65536 * (c4 + c5) + 16777216 * (c5 + c6) + 4294967296 * (c6 + c7) + 1099511627776 * c7) + ((c2 + c3) + 256 * (c3 + c4) + 65536 * (c4 + c5) + 16777216 * (c5 + c6) + 4294967296 * (c6 + c7) + 1099511627776 * c7) =
      ((c0 + c1 + c2 + c3) + 256 * (c1 + c2 + c3 + c4) + 65536 * (c2 + c3 + c4 + c5) + 16777216 * (c3 + c4 + c5 + c6)) + 4294967296 * ((c4 + c5 + c6 + c7) + 256 * (c5 + c6 + c7) + 65536 * (c6 + c7) + 16777216 * c7) by omega, e6]
  clear e4 e5 e6
  have hr : ((c0 + c1 + c2 + c3) + 256 * (c1 + c2 + c3 + c4) + 65536 * (c2 + c3 + c4 + c5) + 16777216 * (c3 + c4 + c5 + c6)) + 4294967296 * ((c4 + c5 + c6 + c7) + 256 * (c5 + c6 + c7) + 65536 * (c6 + c7) + 16777216 * c7) + ((c4 + c5 + c6 + c7) + 256 * (c5 + c6 + c7) + 65536 * (c6 + c7) + 16777216 * c7) < 9223372036854775808 := by omega
  have hm : (((c0 + c1 + c2 + c3) + 256 * (c1 + c2 + c3 + c4) + 65536 * (c2 + c3 + c4 + c5) + 16777216 * (c3 + c4 + c5 + c6)) + 4294967296 * ((c4 + c5 + c6 + c7) + 256 * (c5 + c6 + c7) + 65536 * (c6 + c7) + 16777216 * c7) + ((c4 + c5 + c6 + c7) + 256 * (c5 + c6 + c7) + 65536 * (c6 + c7) + 16777216 * c7)) % 128 = c0 + c1 + c2 + c3 + c4 + c5 + c6 + c7 := by
    rw [show ((c0 + c1 + c2 + c3) + 256 * (c1 + c2 + c3 + c4) + 65536 * (c2 + c3 + c4 + c5) + 16777216 * (c3 + c4 + c5 + c6)) + 4294967296 * ((c4 + c5 + c6 + c7) + 256 * (c5 + c6 + c7) + 65536 * (c6 + c7) + 16777216 * c7) + ((c4 + c5 + c6 + c7) + 256 * (c5 + c6 + c7) + 65536 * (c6 + c7) + 16777216 * c7) = (c0 + c1 + c2 + c3 + c4 + c5 + c6 + c7) + 128 * (2 * (c1 + c2 + c3 + c4) + 512 * (c2 + c3 + c4 + c5) + 131072 * (c3 + c4 + c5 + c6) + 33554432 * ((c4 + c5 + c6 + c7) + 256 * (c5 + c6 + c7) + 65536 * (c6 + c7) + 16777216 * c7) + 2 * (c5 + c6 + c7) + 512 * (c6 + c7) + 131072 * c7) by omega, Nat.add_mul_mod_self_left]
    exact Nat.mod_eq_of_lt (by omega)
  generalize ((c0 + c1 + c2 + c3) + 256 * (c1 + c2 + c3 + c4) + 65536 * (c2 + c3 + c4 + c5) + 16777216 * (c3 + c4 + c5 + c6)) + 4294967296 * ((c4 + c5 + c6 + c7) + 256 * (c5 + c6 + c7) + 65536 * (c6 + c7) + 16777216 * c7) + ((c4 + c5 + c6 + c7) + 256 * (c5 + c6 + c7) + 65536 * (c6 + c7) + 16777216 * c7) = r at hr hm ⊢
  have hsum : c0 + c1 + c2 + c3 + c4 + c5 + c6 + c7 ≤ 64 := by omega
  generalize c0 + c1 + c2 + c3 + c4 + c5 + c6 + c7 = t at hm hsum ⊢
  clear b0 b1 b2 b3 b4 b5 b6 b7
  have w1 : wrap64 (r : Int) = (r : Int) := by unfold wrap64; omega
  rw [w1, show (127 : Int) = ((127 : Nat) : Int) from rfl]
  have hx : (BitVec.ofInt 64 (r : Int)).toNat = r := by rw [BitVec.ofInt_natCast, BitVec.toNat_ofNat]; exact Nat.mod_eq_of_lt (by omega)
  show IntKind.i64.wrap ((BitVec.ofInt 64 (r : Int) &&& BitVec.ofInt 64 ((127 : Nat) : Int)).toNat : Int) = _
  have h127 : (BitVec.ofInt 64 ((127 : Nat) : Int)).toNat = 127 := by decide
  rw [BitVec.toNat_and, hx, h127, Nat.and_two_pow_sub_one_eq_mod r 7, IntKind.wrap_i64]
  omega
theorem ones_any (s : Nat) (w : World) (hs : s < 18446744073709551616) :
    Calls Tryz.prog 116 #[.int .u64 s] w fun e w' => e = .returned (.int .i64 (size s : Nat)) ∧ w = w' := by
  go_enter Tryz.func116, Tryz.ntmps116
  go_wp2
  go_ret
  refine ⟨?_, rfl⟩
  show Ending.returned (.int .i64 (bits BinOp.and IntKind.i64 (wrap64 (oc6 (oc5 (oc4 (oc3 (oc2 (oc1 s))))))) 127)) = _
  rw [oc_all s hs]
theorem size_any (s : Nat) (w : World) (hs : s < 18446744073709551616) :
    Calls Tryz.prog 90 #[.int .u64 s] w fun e w' => e = .returned (.int .i64 (size s : Nat)) ∧ w = w' := by
  have hl : size s ≤ 64 := size_le s
  have hw := wrap_nat s hs
  go_enter Tryz.func90, Tryz.ntmps90
  go_wp2_with (go_at_call 116; refine (ones_any _ _ hs).mono ?_; rintro e w' ⟨rfl, rfl⟩)
  go_ret
  exact ⟨rfl, rfl⟩
theorem tz_core (x k idx : Nat) (w : World) (hx0 : ((x : Int) == 0) = false)
    (key : IntKind.u64.wrap (bits BinOp.and IntKind.u64 (x : Int) (IntKind.u64.wrap (-(x : Int))) * 285870213051353865) / 288230376151711744 = (idx : Int))
    (hi : idx < 64) (hk : k < 64) (hcell : w.cell? ⟨0, idx, none⟩ = some (.int .u8 k)) :
    Calls Tryz.prog 75 #[.int .u64 x] w fun e w' => e = .returned (.int .i64 k) ∧ w = w' := by
  go_enter Tryz.func75, Tryz.ntmps75
  go_wp2_with (simp only [key])
  go_ret
  exact ⟨rfl, rfl⟩
theorem tz_key (x a : Nat) (hx : x < 18446744073709551616) (hx0 : x ≠ 0) (hlow : x &&& (18446744073709551616 - x) = a) :
    IntKind.u64.wrap (bits BinOp.and IntKind.u64 (x : Int) (IntKind.u64.wrap (-(x : Int))) * 285870213051353865) / 288230376151711744 = ((a * 285870213051353865 % 18446744073709551616 / 288230376151711744 : Nat) : Int) := by
  have e1 : IntKind.u64.wrap (-(x : Int)) = ((18446744073709551616 - x : Nat) : Int) := by rw [IntKind.wrap_u64]; omega
  rw [e1, u64_and_nat x _ hx (by omega), hlow, IntKind.wrap_u64]
  omega
/-- The least element of a set, if there is one. -/
theorem tz_any (x : Nat) (w : World) (hx : x < 18446744073709551616) (hx0 : x ≠ 0) (hT : Tab w) :
    Calls Tryz.prog 75 #[.int .u64 x] w fun e w' => e = .returned (.int .i64 (Lib.ctz 64 x : Nat)) ∧ w = w' := by
  obtain ⟨hlow, hk⟩ := Lib.lowest_bit 64 x hx0 hx
  obtain ⟨hi, htab⟩ := Lib.deBruijn64_at _ hk
  have hcell := hT.2 _ hi
  rw [htab] at hcell
  exact tz_core x _ _ w (by simp; omega) (tz_key x _ hx hx0 hlow) hi hk hcell
theorem verts_cons (x : Nat) (hx : x < 18446744073709551616) (hx0 : x ≠ 0) : verts x = Lib.ctz 64 x :: verts (x &&& (x - 1)) ∧ (x &&& (x - 1)) < x := by
  obtain ⟨m, hm, hk⟩ := Lib.ctzFrom_spec 64 x (by omega) (by omega)
  have : Lib.ctz 64 x = Lib.ctzFrom 64 x := by unfold Lib.ctz; rw [if_neg hx0]
  rw [this]
  exact verts_step x _ m hm hk
end Go.Proofs.Tg
end
section
/- The frame of this seat's statements: what the reading of an argument says of memory, the listed table, the row's last step, the world of the witness. -/
namespace Go.Proofs.YtodapfjmgnekkaaGreatDoor.Fr
open Go.ChangeShapes Go.WideShapes Go.ChangeAt Go.RowKit Go.Deep Go.Proofs.Tg Go.Gr
set_option maxRecDepth 100000
section
variable {H : Type} {enc : TypeId × Value → H} {W W' : World}
theorem trodAll_below (hl : laidOutB Tryz.prog = true) (hb : Below W.heap.size W W') : ∀ (ts : List TypeId) (vs : List Value) (ds : List (DataW H)) (ps : List MemPlace),
    (∀ t ∈ ts, Tryz.prog.readableRec t = true ∧ t < Tryz.prog.types.size) → DataW.TrodAll enc Tryz.prog W 0 (fun _ => true) true ts vs ds ps → (∀ x ∈ ps, x.block < W.heap.size) →
    DataW.TrodAll enc Tryz.prog W' 0 (fun b => decide (b < W.heap.size)) true ts vs ds ps
  | [], [], [], ps, _, h, _ => h
  | t :: ts, v :: vs, d :: ds, ps, ht, ⟨p, q, h1, h2, e⟩, hp => by
    subst e
    exact ⟨p, q, Below.trod hl (ht t (by simp)).1 (ht t (by simp)).2 h1 hb (fun x hx => hp x (by simp [hx])), trodAll_below hl hb ts vs ds q (fun t h => ht t (by simp [h])) h2 (fun x hx => hp x (by simp [hx])), rfl⟩
theorem band {a b : Bool} (h : a = true) (k : b = true) : (a && b) = true := by rw [h, k]; rfl
theorem laidOut : laidOutB Tryz.prog = true := by kernel_rfl
/-- A law that returned true and made new memory alone meets its row. -/
theorem post_law {f : Func} {s : ChangeSpec} {args : Array Value} {ds gs : List (DataW H)} {before : List MemPlace}
    (hW : DataW.Whole enc Tryz.prog f.params.toList s.vars false W args.toList ds gs before) (hv : s.vars = []) (hf : f.resultTypes = #[4])
    (hr : (s.fn H (ds ++ gs)).results = [.lit (.bool true)]) (ha : (s.fn H (ds ++ gs)).args = ds) (hg : (s.fn H (ds ++ gs)).vars = [])
    (hp : ∀ t ∈ f.params.toList, Tryz.prog.readableRec t = true ∧ t < Tryz.prog.types.size) (hb : Below W.heap.size W W') :
    s.post enc Tryz.prog f false true false false W args (.bool true) W' := by
  have hlt := hW.lt
  have hW2 := hW
  obtain ⟨p, q, hA, hV, hps, hz, hn⟩ := hW2
  rw [hv] at hV
  obtain ⟨rfl, rfl⟩ := trodVars_none hV
  rw [List.append_nil] at hps
  subst hps
  refine ⟨ds, [], before, [], before, [], hW, ?_, ?_, ?_, World.keptBut_mono (fun x hx => ⟨hx, .inr (.inl hx)⟩) (hb.frame (· ∈ before)), fun h => by cases h⟩
  · rw [hr, hf]
    exact trodAll_cons_mk (shut_bool Tryz.underlying4 _) trodAll_mk0
  · rw [ha]
    exact trodAll_below laidOut hb _ _ _ _ hp hA hlt
  · rw [hv, hg]; rfl
theorem gTab : Tryz.prog.globalNamed "math/bits.deBruijn64tab" = some 0 := by kernel_rfl
theorem gTabType : (Tryz.prog.globals[0]?).map (·.type) = some 156 := by kernel_rfl
theorem cellsTab : Tryz.prog.cellsOf 156 = 64 := by kernel_rfl
theorem cellsU8 : Tryz.prog.cellsOf 5 = 1 := by kernel_rfl
theorem cellsRow : Tryz.prog.cellsOf 36 = 1 := by kernel_rfl
theorem cellsInt : Tryz.prog.cellsOf 3 = 1 := by kernel_rfl
def tabZ : List Int := Lib.deBruijn64tab.map fun x : Nat => (x : Int)
theorem tabZ_len : tabZ.length = 64 := by decide +kernel
theorem tab_data : (Rows.laid_math_bits_deBruijn64tab : DataW Unit) = Lib.tabData .u8 tabZ := by kernel_rfl
/-- What the row's list gives: the table's cells. -/
theorem tab_of (h : laidMetH Tryz.prog [("math/bits.deBruijn64tab", Rows.laid_math_bits_deBruijn64tab)] W) : Tab W := by
  rw [tab_data] at h
  have h1 : Lib.TabIs Tryz.prog W "math/bits.deBruijn64tab" .u8 tabZ := Lib.tabIs_of_head (rest := []) gTab gTabType Tryz.underlying156 Tryz.underlying5 cellsU8 cellsTab h
  have hc : ∀ j, j < 64 → W.cell? ⟨0, j, none⟩ = some (.int .u8 (Lib.deBruijn64tab.getD j 0)) := by
    intro j hj
    rw [h1.cell gTab j (by rw [tabZ_len]; exact hj)]
    congr 2
    unfold tabZ
    simp only [List.getD_eq_getElem?_getD, List.getElem?_map]
    cases Lib.deBruijn64tab[j]? <;> simp
  exact ⟨World.block_lt_of_cell? W ⟨0, 0, none⟩ (hc 0 (by omega)), hc⟩
/-- A slice of numbers, opened. -/
theorem open_nums {v : Value} {d : DataW H} {ps : List MemPlace} {b0 : Nat} (hval : Value.okWide Tryz.prog W .any b0 36 v) (h : DataW.Trod enc Tryz.prog W 0 (fun _ => true) true 36 v d ps) :
    ∃ A xs c, v = .slice A xs.length c ∧ Ints W A xs := by
  obtain ⟨V, len, cap, rfl⟩ := okWide_slice Tryz.underlying36 hval
  obtain ⟨fuel, h⟩ := h
  have hcs : (Value.slice V len cap).cells.toList = [.slice V len cap] := by simp [Value.cells]
  rw [hcs] at h
  rcases open_ints Tryz.underlying36 Tryz.underlying3 cellsInt h with ⟨h1, _⟩ | ⟨a, l, c, zs, h1, _, hl, hm, hz, _, hx, _⟩
  · injection h1 with h1
    injection h1 with e1 e2 e3
    subst e1 e2 e3
    exact ⟨none, [], 0, rfl, Sl.nil _ _ _⟩
  · injection h1 with h1
    injection h1 with e1 e2 e3
    subst e1 e2 e3
    simp only [if_true] at hz
    have hlen : (zs.take len).length = len := by rw [List.length_take]; omega
    refine ⟨some a, zs.take len, cap, by rw [hlen], by simp, fun hn => ⟨a, rfl, ?_, ?_⟩⟩
    · rw [hlen] at hn
      exact World.block_lt_of_cell? W _ (hx 0 (by omega))
    · intro j u hu
      have hj : j < len := by
        have := (List.getElem?_eq_some_iff.1 hu).1
        rw [List.length_map, hlen] at this
        exact this
      have e : u = .int .i64 (zs.getD j 0) := by
        rw [List.getElem?_map, List.getElem?_take, if_pos hj] at hu
        simp only [List.getElem?_eq_getElem (show j < zs.length by omega), Option.map_some] at hu
        injection hu with hu
        rw [← hu]
        simp [vi, show j < zs.length by omega]
      rw [e]
      exact hx j (by omega)
/-- A slice of slices of numbers, opened. -/
theorem open_lists {v : Value} {d : DataW H} {ps : List MemPlace} {b0 : Nat} (hval : Value.okWide Tryz.prog W .any b0 25 v) (h : DataW.Trod enc Tryz.prog W 0 (fun _ => true) true 25 v d ps) :
    ∃ V ls c, v = .slice V ls.length c ∧ Lists W V ls ∧ ls.length ≤ maxLen ∧ ∀ l ∈ ls, l.length ≤ maxLen := by
  obtain ⟨V, len, cap, rfl⟩ := okWide_slice Tryz.underlying25 hval
  obtain ⟨fuel, h⟩ := h
  have hcs : (Value.slice V len cap).cells.toList = [.slice V len cap] := by simp [Value.cells]
  rw [hcs] at h
  rcases open_int_rows Tryz.underlying25 Tryz.underlying36 Tryz.underlying3 cellsRow cellsInt h with ⟨h1, _⟩ | ⟨a, l, c, A, L, C, Z, h1, _, hl, hml, _, hx⟩
  · injection h1 with h1
    injection h1 with e1 e2 e3
    subst e1 e2 e3
    exact ⟨none, [], 0, rfl, ⟨fun _ => (none, 0), Sl.nil _ _ _, fun i hi => by simp at hi⟩, by simp, by simp⟩
  · injection h1 with h1
    injection h1 with e1 e2 e3
    subst e1 e2 e3
    have hz : ∀ i, i < len → ((Z i).take (L i)).length = L i := by
      intro i hi
      obtain ⟨_, h2, _, h4, _⟩ := hx i (by omega)
      rw [List.length_take]; omega
    have hg : ∀ i, i < len → ((List.range len).map fun i => (Z i).take (L i)).getD i [] = (Z i).take (L i) := by
      intro i hi; simp [hi]
    refine ⟨some a, (List.range len).map fun i => (Z i).take (L i), cap, by simp, ⟨fun i => (A i, C i), ?_, ?_⟩, by simp; omega, ?_⟩
    · refine ⟨by simp, fun hn => ⟨a, rfl, ?_, ?_⟩⟩
      · have hn' : 0 < len := by simpa using hn
        have := (hx 0 (by omega)).1
        exact World.block_lt_of_cell? W _ this
      · intro j u hu
        have hj : j < len := by
          have := (List.getElem?_eq_some_iff.1 hu).1
          simpa using this
        have e : u = .slice (A j) (L j) (C j) := by
          rw [List.getElem?_map, List.getElem?_range (by simpa using hj)] at hu
          simp only [Option.map_some] at hu
          injection hu with hu
          rw [← hu, hg j hj, hz j hj]
        rw [e]
        exact (hx j (by omega)).1
    · intro i hi
      have hi' : i < len := by simpa using hi
      rw [hg i hi']
      obtain ⟨h1, h2, h3, h4, h5, h6, h7⟩ := hx i (by omega)
      refine ⟨by simp, fun hn => ?_⟩
      rw [hz i hi'] at hn
      have hA : ∃ a', A i = some a' := by
        cases hA : A i with
        | none => have := h6 hA; omega
        | some a' => exact ⟨a', rfl⟩
      obtain ⟨a', hA⟩ := hA
      obtain ⟨_, hc⟩ := h7 a' hA
      refine ⟨a', hA, World.block_lt_of_cell? W _ (hc 0 (by omega)), ?_⟩
      intro j u hu
      have hj : j < L i := by
        have := (List.getElem?_eq_some_iff.1 hu).1
        rw [List.length_map, hz i hi'] at this
        exact this
      have e : u = .int .i64 ((Z i).getD j 0) := by
        rw [List.getElem?_map, List.getElem?_take, if_pos hj] at hu
        simp only [List.getElem?_eq_getElem (show j < (Z i).length by omega), Option.map_some] at hu
        injection hu with hu
        rw [← hu]
        simp [vi, show j < (Z i).length by omega]
      rw [e]
      exact hc j (by omega)
    · intro l hl2
      obtain ⟨i, hi, rfl⟩ := List.mem_map.1 hl2
      have hi' : i < len := by simpa using hi
      obtain ⟨h1, h2, h3, _⟩ := hx i (by omega)
      rw [hz i hi']; omega
end
/-- The world of the witness: the settled one, the table holding what its initialiser lays. -/
noncomputable def laidWorld (os : Os) : World :=
  { World.holding Tryz.prog os ⟨#[], #[], []⟩ with heap := (World.holding Tryz.prog os ⟨#[], #[], []⟩).heap.modify 0 fun
      | .cells _ t frozen => .cells (tabZ.map fun z => Value.int .u8 z).toArray t frozen
      | o => o }
theorem own : ownKnob Tryz.prog.godebug = none := by kernel_rfl
end Go.Proofs.YtodapfjmgnekkaaGreatDoor.Fr
end
section
/- Decimal texts of rational numbers: what the program accepts and what the reference accepts is the same. Plain lists of bytes. -/
namespace Go.Qn
open Go.Lib
def isD (c : UInt8) : Bool := decide (48 ≤ c.toNat) && decide (c.toNat ≤ 57)
def val (l : List UInt8) : Nat := l.foldl (fun n c => 10 * n + (c.toNat - 48)) 0
theorem val_snoc (l : List UInt8) (c : UInt8) : val (l ++ [c]) = 10 * val l + (c.toNat - 48) := by unfold val; rw [List.foldl_append]; rfl
theorem isD_iff {c : UInt8} : isD c = true ↔ 48 ≤ c.toNat ∧ c.toNat ≤ 57 := by unfold isD; simp
theorem snoc_ind {P : List UInt8 → Prop} (h0 : P []) (h1 : ∀ l c, P l → P (l ++ [c])) (l : List UInt8) : P l := by
  have : ∀ l : List UInt8, P l.reverse := by
    intro l
    induction l with
    | nil => exact h0
    | cons c l ih => rw [List.reverse_cons]; exact h1 _ _ ih
  have h := this l.reverse
  rwa [List.reverse_reverse] at h
theorem val_lt (l : List UInt8) (h : ∀ c ∈ l, isD c = true) : val l < 10 ^ l.length := by
  revert h
  refine snoc_ind (P := fun l => (∀ c ∈ l, isD c = true) → val l < 10 ^ l.length) ?_ ?_ l
  · intro _; decide
  · intro l c ih h
    have h1 := ih fun x hx => h x (by simp [hx])
    have h2 := isD_iff.1 (h c (by simp))
    rw [val_snoc, List.length_append, List.length_singleton, Nat.pow_succ]
    omega
theorem toNat_ofNat (n : Nat) (h : n < 256) : (UInt8.ofNat n).toNat = n := by simp; omega
theorem val_dec (n : Nat) : val (decDigits n) = n := by
  induction n using Nat.strongRecOn with
  | _ n ih =>
    by_cases h : n < 10
    · rw [decDigits, dif_pos h]
      show 10 * 0 + ((UInt8.ofNat (48 + n)).toNat - 48) = n
      rw [toNat_ofNat _ (by omega)]; omega
    · rw [decDigits, dif_neg h, val_snoc, ih (n / 10) (by omega), toNat_ofNat _ (by omega)]; omega
theorem dec_allD (n : Nat) : ∀ c ∈ decDigits n, isD c = true := by
  induction n using Nat.strongRecOn with
  | _ n ih =>
    intro c hc
    by_cases h : n < 10
    · rw [decDigits, dif_pos h] at hc
      simp only [List.mem_cons, List.not_mem_nil, or_false] at hc
      subst hc
      rw [isD_iff, toNat_ofNat _ (by omega)]; omega
    · rw [decDigits, dif_neg h] at hc
      rcases List.mem_append.1 hc with hc | hc
      · exact ih (n / 10) (by omega) c hc
      · simp only [List.mem_cons, List.not_mem_nil, or_false] at hc
        subst hc
        rw [isD_iff, toNat_ofNat _ (by omega)]; omega
theorem dec_ne (n : Nat) : decDigits n ≠ [] := by
  rw [decDigits]; split <;> simp
theorem dec_head (n : Nat) (h0 : n ≠ 0) : (decDigits n).head? ≠ some 48 := by
  induction n using Nat.strongRecOn with
  | _ n ih =>
    by_cases h : n < 10
    · rw [decDigits, dif_pos h]
      simp only [List.head?_cons, ne_eq, Option.some.injEq]
      intro e
      have := congrArg UInt8.toNat e
      rw [toNat_ofNat _ (by omega)] at this
      have e2 : (48 : UInt8).toNat = 48 := rfl
      omega
    · rw [decDigits, dif_neg h]
      have := ih (n / 10) (by omega) (by omega)
      rw [List.head?_append]
      cases hh : (decDigits (n / 10)).head? with
      | none => exact absurd (List.head?_eq_none_iff.1 hh) (dec_ne _)
      | some x => rw [hh] at this; simpa using this
theorem dec_zero : decDigits 0 = [48] := by rw [decDigits, dif_pos (by omega)]; rfl
theorem dec_one : decDigits 1 = [49] := by rw [decDigits, dif_pos (by omega)]; rfl
theorem dec_inj {m n : Nat} (h : decDigits m = decDigits n) : m = n := by rw [← val_dec m, h, val_dec]
theorem dec_val (l : List UInt8) (h : ∀ c ∈ l, isD c = true) (hn : l ≠ []) (hz : l.head? ≠ some 48) : decDigits (val l) = l ∧ val l ≠ 0 := by
  revert h hn hz
  refine snoc_ind (P := fun l => (∀ c ∈ l, isD c = true) → l ≠ [] → l.head? ≠ some 48 → decDigits (val l) = l ∧ val l ≠ 0) ?_ ?_ l
  · intro _ h; exact absurd rfl h
  · intro l c ih h _ hz
    have h2 := isD_iff.1 (h c (by simp))
    rw [val_snoc]
    by_cases hl : l = []
    · subst hl
      have hc : c.toNat ≠ 48 := fun e => hz (by
        have : c = 48 := UInt8.toNat_inj.1 (by rw [e]; rfl)
        simp [this])
      refine ⟨?_, by omega⟩
      show decDigits (10 * 0 + (c.toNat - 48)) = [c]
      rw [decDigits, dif_pos (by omega)]
      simp only [List.cons.injEq, and_true]
      apply UInt8.toNat_inj.1
      rw [toNat_ofNat _ (by omega)]; omega
    · have hz' : l.head? ≠ some 48 := by
        rw [List.head?_append] at hz
        cases hh : l.head? with
        | none => simp
        | some x => rw [hh] at hz; simpa using hz
      obtain ⟨h3, h4⟩ := ih (fun x hx => h x (by simp [hx])) hl hz'
      refine ⟨?_, by omega⟩
      rw [decDigits, dif_neg (by omega), show (10 * val l + (c.toNat - 48)) / 10 = val l by omega, h3]
      congr 1
      simp only [List.cons.injEq, and_true]
      apply UInt8.toNat_inj.1
      rw [toNat_ofNat _ (by omega)]; omega
/-- The text of a number in lowest terms. -/
def text (neg : Bool) (n d : Nat) : List UInt8 := (if neg = true then [45] else []) ++ (decDigits n ++ if d = 1 then [] else 47 :: decDigits d)
def Canon (neg : Bool) (n d : Nat) : Prop := 0 < d ∧ Nat.gcd n d = 1 ∧ (n = 0 → neg = false)
def cut (l : List UInt8) : Bool × List UInt8 := if l.head? = some 45 then (true, l.tail) else (false, l)
/-- What the program reads. -/
def rdTail (neg : Bool) (num rest : List UInt8) : Option (Bool × Nat × Nat) :=
  match rest with
  | [] => some (neg, val num, 1)
  | c :: t => if c = 47 ∧ t.dropWhile isD = [] ∧ t.takeWhile isD ≠ [] ∧ (t.takeWhile isD).head? ≠ some 48 ∧ t.takeWhile isD ≠ [49] ∧ Nat.gcd (val num) (val (t.takeWhile isD)) = 1 then some (neg, val num, val (t.takeWhile isD)) else none
def rdBody (neg : Bool) (r : List UInt8) : Option (Bool × Nat × Nat) :=
  if r.takeWhile isD = [48] then (if neg = false ∧ r.dropWhile isD = [] then some (false, 0, 1) else none)
  else if r.takeWhile isD = [] ∨ (r.takeWhile isD).head? = some 48 then none
  else rdTail neg (r.takeWhile isD) (r.dropWhile isD)
def rd (l : List UInt8) : Option (Bool × Nat × Nat) := rdBody (cut l).1 (cut l).2
theorem tw_app {p : UInt8 → Bool} (a b : List UInt8) (ha : ∀ c ∈ a, p c = true) (hb : b = [] ∨ ∃ c t, b = c :: t ∧ p c = false) : (a ++ b).takeWhile p = a ∧ (a ++ b).dropWhile p = b := by
  induction a with
  | nil =>
    rcases hb with rfl | ⟨c, t, rfl, hc⟩
    · simp
    · simp [hc]
  | cons x a ih =>
    have := ih fun c hc => ha c (by simp [hc])
    simp [ha x (by simp), this]
theorem tw_all {p : UInt8 → Bool} (l : List UInt8) : ∀ c ∈ l.takeWhile p, p c = true := by
  exact List.all_eq_true.1 List.all_takeWhile
theorem cut_eq (l : List UInt8) : l = (if (cut l).1 = true then [45] else []) ++ (cut l).2 := by
  unfold cut
  cases l with
  | nil => simp
  | cons c t => by_cases h : c = 45 <;> simp [h]
theorem not_isD_47 : isD 47 = false := by decide
theorem not_isD_45 : isD 45 = false := by decide
theorem cut_text (neg : Bool) (n d : Nat) : cut (text neg n d) = (neg, decDigits n ++ if d = 1 then [] else 47 :: decDigits d) := by
  unfold cut text
  cases neg with
  | true => simp
  | false =>
    have h : ((if false = true then ([45] : List UInt8) else []) ++ (decDigits n ++ if d = 1 then [] else 47 :: decDigits d)).head? ≠ some 45 := by
      simp only [Bool.false_eq_true, if_false, List.nil_append, List.head?_append]
      cases hh : (decDigits n).head? with
      | none => exact absurd (List.head?_eq_none_iff.1 hh) (dec_ne _)
      | some x =>
        have hx : x ∈ decDigits n := List.mem_of_mem_head? (by rw [hh]; rfl)
        have := dec_allD n x hx
        simp only [Option.some_or, ne_eq, Option.some.injEq]
        rintro rfl
        rw [not_isD_45] at this
        exact Bool.noConfusion this
    rw [if_neg h]; simp
theorem tail_form (d : Nat) : (if d = 1 then ([] : List UInt8) else 47 :: decDigits d) = [] ∨ ∃ c t, (if d = 1 then ([] : List UInt8) else 47 :: decDigits d) = c :: t ∧ isD c = false := by
  by_cases h : d = 1
  · left; simp [h]
  · right; exact ⟨47, decDigits d, by simp [h], not_isD_47⟩
theorem rd_text {neg : Bool} {n d : Nat} (h : Canon neg n d) : rd (text neg n d) = some (neg, n, d) := by
  obtain ⟨hd, hg, hn⟩ := h
  unfold rd
  rw [cut_text]
  obtain ⟨t1, t2⟩ := tw_app (decDigits n) _ (dec_allD n) (tail_form d)
  simp only [rdBody, t1, t2]
  by_cases h0 : n = 0
  · subst h0
    rw [dec_zero, if_pos rfl, hn rfl]
    have : d = 1 := by simpa using hg
    simp [this]
  · have hh := dec_head n h0
    rw [if_neg (fun e => hh (by rw [e]; rfl)), if_neg (fun e => by rcases e with e | e; exact dec_ne n e; exact hh e)]
    by_cases h1 : d = 1
    · simp [rdTail, h1, val_dec]
    · simp only [rdTail, if_neg h1]
      obtain ⟨s1, s2⟩ := tw_app (p := isD) (decDigits d) [] (dec_allD d) (.inl rfl)
      rw [List.append_nil] at s1 s2
      rw [s1, s2, if_pos ⟨by trivial, by trivial, dec_ne d, dec_head d (by omega), fun e => h1 (dec_inj (e.trans dec_one.symm)), by rw [val_dec, val_dec]; exact hg⟩, val_dec, val_dec]
theorem rd_some {l : List UInt8} {neg : Bool} {n d : Nat} (h : rd l = some (neg, n, d)) : Canon neg n d ∧ l = text neg n d := by
  unfold rd rdBody at h
  have hl := cut_eq l
  generalize (cut l).1 = b at h hl
  generalize (cut l).2 = r at h hl
  subst hl
  have hr := (List.takeWhile_append_dropWhile (p := isD) (l := r)).symm
  have hD := tw_all (p := isD) r
  generalize r.takeWhile isD = num at h hr hD
  generalize r.dropWhile isD = rest at h hr
  subst hr
  by_cases e0 : num = [48]
  · rw [if_pos e0] at h
    by_cases e1 : b = false ∧ rest = []
    · rw [if_pos e1] at h
      obtain ⟨rfl, rfl⟩ := e1
      injection h with h
      injection h with h1 h2
      injection h2 with h2 h3
      subst h1 h2 h3 e0
      exact ⟨⟨by omega, by simp, fun _ => rfl⟩, by unfold text; rw [dec_zero]; rfl⟩
    · rw [if_neg e1] at h; cases h
  · rw [if_neg e0] at h
    by_cases e1 : num = [] ∨ num.head? = some 48
    · rw [if_pos e1] at h; cases h
    · rw [if_neg e1] at h
      have hv := dec_val num hD (fun e => e1 (.inl e)) (fun e => e1 (.inr e))
      cases rest with
      | nil =>
        simp only [rdTail, Option.some.injEq, Prod.mk.injEq] at h
        obtain ⟨rfl, rfl, rfl⟩ := h
        exact ⟨⟨by omega, by simp, fun e => absurd e hv.2⟩, by unfold text; rw [hv.1]; simp⟩
      | cons c t =>
        simp only [rdTail] at h
        split at h
        · rename_i hc
          obtain ⟨rfl, c2, c3, c4, c5, c6⟩ := hc
          simp only [Option.some.injEq, Prod.mk.injEq] at h
          obtain ⟨rfl, rfl, rfl⟩ := h
          have ht := (List.takeWhile_append_dropWhile (p := isD) (l := t)).symm
          have hD2 := tw_all (p := isD) t
          rw [c2, List.append_nil] at ht
          rw [← ht] at c3 c4 c5 c6 hD2 ⊢
          have hv2 := dec_val t hD2 c3 c4
          have h1 : val t ≠ 1 := fun e => c5 (by rw [← hv2.1, e, dec_one])
          refine ⟨⟨by have := hv2.2; omega, c6, fun e => absurd e hv.2⟩, ?_⟩
          unfold text
          rw [if_neg h1, hv.1, hv2.1]
        · cases h
theorem rd_iff {l : List UInt8} {neg : Bool} {n d : Nat} : rd l = some (neg, n, d) ↔ Canon neg n d ∧ l = text neg n d :=
  ⟨rd_some, fun h => h.2 ▸ rd_text h.1⟩
/-! The reference: cut at the first '/', read both parts, divide by the greatest common divisor, write, compare. -/
def ne47 (c : UInt8) : Bool := c != 47
def numOk (l : List UInt8) : Bool := l.all isD && !l.isEmpty
theorem numOk_iff {l : List UInt8} : numOk l = true ↔ (∀ c ∈ l, isD c = true) ∧ l ≠ [] := by unfold numOk; simp
/-- What the reference has read before it compares: nothing, or a number in lowest terms. -/
def refN (l : List UInt8) : Option (Bool × Nat × Nat) :=
  let a := (cut l).2.takeWhile ne47
  let r := (cut l).2.dropWhile ne47
  if numOk a = true then
    match r with
    | [] => some ((cut l).1 && decide (val a ≠ 0), val a, 1)
    | _ :: b => if numOk b = true ∧ val b ≠ 0 then some ((cut l).1 && decide (val a ≠ 0), val a / Nat.gcd (val a) (val b), val b / Nat.gcd (val a) (val b)) else none
  else none
theorem refN_canon {l : List UInt8} {neg : Bool} {n d : Nat} (h : refN l = some (neg, n, d)) : Canon neg n d := by
  unfold refN at h
  simp only at h
  split at h
  · split at h
    · simp only [Option.some.injEq, Prod.mk.injEq] at h
      obtain ⟨rfl, rfl, rfl⟩ := h
      exact ⟨by omega, by simp, fun e => by simp [e]⟩
    · rename_i b _
      split at h
      · rename_i hb
        simp only [Option.some.injEq, Prod.mk.injEq] at h
        obtain ⟨rfl, rfl, rfl⟩ := h
        generalize val ((cut l).2.takeWhile ne47) = x at *
        have hy : 0 < val b := Nat.pos_of_ne_zero hb.2
        generalize val b = y at *
        have hg : 0 < Nat.gcd x y := Nat.gcd_pos_of_pos_right _ hy
        refine ⟨Nat.div_pos (Nat.gcd_le_right _ hy) hg, ?_, fun e => ?_⟩
        · rw [Nat.gcd_div (Nat.gcd_dvd_left _ _) (Nat.gcd_dvd_right _ _), Nat.div_self hg]
        · have : x = 0 := by
            rcases Nat.eq_zero_or_pos x with h0 | h0
            · exact h0
            · have := Nat.div_pos (Nat.gcd_le_left y h0) hg
              omega
          simp [this]
      · cases h
  · cases h
theorem ne47_of_isD {c : UInt8} (h : isD c = true) : ne47 c = true := by
  unfold ne47
  rw [isD_iff] at h
  simp only [bne_iff_ne, ne_eq]
  rintro rfl
  have : (47 : UInt8).toNat = 47 := rfl
  omega
theorem refN_text {neg : Bool} {n d : Nat} (h : Canon neg n d) : refN (text neg n d) = some (neg, n, d) := by
  obtain ⟨hd, hg, hn⟩ := h
  unfold refN
  rw [cut_text]
  have tf : (if d = 1 then ([] : List UInt8) else 47 :: decDigits d) = [] ∨ ∃ c t, (if d = 1 then ([] : List UInt8) else 47 :: decDigits d) = c :: t ∧ ne47 c = false := by
    by_cases h : d = 1
    · left; simp [h]
    · right; exact ⟨47, decDigits d, by simp [h], by decide⟩
  obtain ⟨t1, t2⟩ := tw_app (p := ne47) (decDigits n) _ (fun c hc => ne47_of_isD (dec_allD n c hc)) tf
  simp only [t1, t2]
  have ok : ∀ m, numOk (decDigits m) = true := fun m => numOk_iff.2 ⟨dec_allD m, dec_ne m⟩
  have hnn : (neg && decide (n ≠ 0)) = neg := by
    by_cases h0 : n = 0
    · rw [hn h0]; rfl
    · simp [h0]
  rw [if_pos (ok n), val_dec]
  by_cases h1 : d = 1
  · simp only [h1, if_true, hnn]
  · simp only [if_neg h1]
    rw [if_pos ⟨ok d, by rw [val_dec]; omega⟩, val_dec, hg, hnn]
    simp
/-- The reference accepts what the program accepts, and reads the same number. -/
theorem ref_rd {l : List UInt8} {neg : Bool} {n d : Nat} : rd l = some (neg, n, d) ↔ refN l = some (neg, n, d) ∧ text neg n d = l := by
  rw [rd_iff]
  constructor
  · rintro ⟨h1, h2⟩
    exact ⟨h2 ▸ refN_text h1, h2.symm⟩
  · rintro ⟨h1, h2⟩
    exact ⟨refN_canon h1, h2.symm⟩
theorem rd_none_of {l : List UInt8} (h : refN l = none) : rd l = none := by
  cases hr : rd l with
  | none => rfl
  | some q =>
    obtain ⟨a, b, c⟩ := q
    rw [(ref_rd.1 hr).1] at h; cases h
theorem rd_none_text {l : List UInt8} {neg : Bool} {n d : Nat} (h : refN l = some (neg, n, d)) (ht : text neg n d ≠ l) : rd l = none := by
  cases hr : rd l with
  | none => rfl
  | some q =>
    obtain ⟨a, b, c⟩ := q
    have := ref_rd.1 hr
    rw [h] at this
    obtain ⟨h1, h2⟩ := this
    injection h1 with h1
    injection h1 with e1 e2
    injection e2 with e2 e3
    subst e1 e2 e3
    exact absurd h2 ht
/-! The parts of a text. -/
def SplitIs (l : List UInt8) (b : Bool) (num den : List UInt8) (ok : Bool) : Prop :=
  num.length ≤ l.length ∧ den.length ≤ l.length ∧ (ok = false → rd l = none) ∧
  (ok = true → numOk num = true ∧ (den = [] → rd l = some (b, val num, 1)) ∧ (den ≠ [] → numOk den = true ∧ val num ≠ 0 ∧ val den ≠ 0 ∧ rd l = if Nat.gcd (val num) (val den) = 1 then some (b, val num, val den) else none))
theorem cut_len (l : List UInt8) : (cut l).2.length ≤ l.length := by
  unfold cut; split
  · simp
  · exact Nat.le_refl _
theorem tw_len (p : UInt8 → Bool) (l : List UInt8) : (l.takeWhile p).length ≤ l.length := by
  have h := congrArg List.length (List.takeWhile_append_dropWhile (p := p) (l := l))
  rw [List.length_append] at h; omega
theorem dw_len (p : UInt8 → Bool) (l : List UInt8) : (l.dropWhile p).length ≤ l.length := by
  have h := congrArg List.length (List.takeWhile_append_dropWhile (p := p) (l := l))
  rw [List.length_append] at h; omega
section
variable {l r : List UInt8} {b : Bool} (hc : cut l = (b, r))
include hc
theorem spl_len : (r.takeWhile isD).length ≤ l.length ∧ r.length ≤ l.length := by
  have h1 := cut_len l
  have h2 := tw_len isD r
  rw [hc] at h1
  exact ⟨Nat.le_trans h2 h1, h1⟩
theorem rd_of : rd l = rdBody b r := by unfold rd; rw [hc]
theorem spl_zero (h : r.takeWhile isD = [48]) : SplitIs l b (r.takeWhile isD) [] (!b && (r.dropWhile isD).isEmpty) := by
  refine ⟨(spl_len hc).1, by simp, fun e => ?_, fun e => ⟨by rw [h]; rfl, fun _ => ?_, fun e => absurd rfl e⟩⟩
  · rw [rd_of hc, rdBody, if_pos h, if_neg]
    rintro ⟨h1, h2⟩
    rw [h1, h2] at e; cases e
  · rw [rd_of hc, rdBody, if_pos h, h]
    cases b with
    | true => cases e
    | false =>
      have : r.dropWhile isD = [] := by simpa using e
      rw [if_pos ⟨rfl, this⟩]; rfl
theorem spl_bad (h : r.takeWhile isD ≠ [48]) (h2 : r.takeWhile isD = [] ∨ (r.takeWhile isD).head? = some 48) : SplitIs l b (r.takeWhile isD) [] false :=
  ⟨(spl_len hc).1, by simp, fun _ => by rw [rd_of hc, rdBody, if_neg h, if_pos h2], fun e => by cases e⟩
theorem spl_whole (h : r.takeWhile isD ≠ [48]) (h2 : ¬ (r.takeWhile isD = [] ∨ (r.takeWhile isD).head? = some 48)) (h3 : r.dropWhile isD = []) : SplitIs l b (r.takeWhile isD) [] true :=
  ⟨(spl_len hc).1, by simp, fun e => (by cases e), fun _ => ⟨numOk_iff.2 ⟨tw_all _, fun e => h2 (.inl e)⟩, fun _ => by rw [rd_of hc, rdBody, if_neg h, if_neg h2, h3]; rfl, fun e => absurd rfl e⟩⟩
theorem spl_slash (h : r.takeWhile isD ≠ [48]) (h2 : ¬ (r.takeWhile isD = [] ∨ (r.takeWhile isD).head? = some 48)) {c : UInt8} {t : List UInt8} (h3 : r.dropWhile isD = c :: t) (h4 : c ≠ 47) : SplitIs l b (r.takeWhile isD) [] false :=
  ⟨(spl_len hc).1, by simp, fun _ => by rw [rd_of hc, rdBody, if_neg h, if_neg h2, h3, rdTail, if_neg (fun e => h4 e.1)], fun e => by cases e⟩
theorem spl_den (h : r.takeWhile isD ≠ [48]) (h2 : ¬ (r.takeWhile isD = [] ∨ (r.takeWhile isD).head? = some 48)) {t : List UInt8} (h3 : r.dropWhile isD = 47 :: t) {ok : Bool}
    (hok : ok = true ↔ t.dropWhile isD = [] ∧ t.takeWhile isD ≠ [] ∧ (t.takeWhile isD).head? ≠ some 48 ∧ t.takeWhile isD ≠ [49]) : SplitIs l b (r.takeWhile isD) (t.takeWhile isD) ok := by
  refine ⟨(spl_len hc).1, ?_, fun e => ?_, fun e => ⟨numOk_iff.2 ⟨tw_all _, fun e => h2 (.inl e)⟩, fun e2 => absurd e2 (hok.1 e).2.1, fun _ => ⟨numOk_iff.2 ⟨tw_all _, (hok.1 e).2.1⟩, (dec_val _ (tw_all _) (fun e => h2 (.inl e)) (fun e => h2 (.inr e))).2, (dec_val _ (tw_all _) (hok.1 e).2.1 (hok.1 e).2.2.1).2, ?_⟩⟩⟩
  · have a1 := tw_len isD t
    have a2 := dw_len isD r
    have a3 := (spl_len hc).2
    rw [h3, List.length_cons] at a2
    omega
  · rw [rd_of hc, rdBody, if_neg h, if_neg h2, h3, rdTail, if_neg]
    rintro ⟨_, a, b, c, d, _⟩
    rw [hok.2 ⟨a, b, c, d⟩] at e; cases e
  · obtain ⟨a, b, c, d⟩ := hok.1 e
    rw [rd_of hc, rdBody, if_neg h, if_neg h2, h3, rdTail]
    by_cases g : Nat.gcd (val (r.takeWhile isD)) (val (t.takeWhile isD)) = 1
    · rw [if_pos ⟨rfl, a, b, c, d, g⟩, if_pos g]
    · rw [if_neg (fun h => g h.2.2.2.2.2), if_neg g]
end
end Go.Qn
end
