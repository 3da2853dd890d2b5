/- What the small functions of package graph and of math/bits compute: sets of numbers below 64 as bits. -/
import Derived.Test.YtapkdofmcchdcaaGreatDoorProg
import Derived.Test.YtapkdofmcchdcaaGreatDoorBits
import Derived.WalkKit
import Derived.WalkSpells
import Derived.WalkLawsBesides
import Derived.Laws.BitsAllLaws
import Derived.Lib.TrailingZeros
import Derived.Laws.Bits64b
import Derived.Deep.QuietTactic
import Derived.BigQuiet
import Derived.Lib.Hide
namespace Go.Gr
def bset (s i : Nat) : Nat := s ||| (1 <<< i)
def andn (a b : Nat) : Nat := a &&& (18446744073709551615 - b)
def bclr (s i : Nat) : Nat := andn s (1 <<< i)
def firstN (n : Nat) : Nat := (1 <<< n) - 1
theorem shl_lt (i : Nat) (hi : i < 64) : 1 <<< i < 18446744073709551616 := by
  have h : (2 : Nat) ^ i < 2 ^ 64 := Nat.pow_lt_pow_right (by omega) hi
  rw [Nat.one_shiftLeft]; omega
theorem bset_lt {s i : Nat} (hs : s < 18446744073709551616) (hi : i < 64) : bset s i < 18446744073709551616 :=
  Nat.or_lt_two_pow (n := 64) (by omega) (shl_lt i hi)
theorem and_lt {a : Nat} (b : Nat) (ha : a < 18446744073709551616) : a &&& b < 18446744073709551616 :=
  Nat.lt_of_le_of_lt Nat.and_le_left ha
theorem andn_lt {a : Nat} (b : Nat) (ha : a < 18446744073709551616) : andn a b < 18446744073709551616 := and_lt _ ha
theorem bclr_lt {s : Nat} (i : Nat) (hs : s < 18446744073709551616) : bclr s i < 18446744073709551616 := andn_lt _ hs
theorem or_lt {a b : Nat} (ha : a < 18446744073709551616) (hb : b < 18446744073709551616) : a ||| b < 18446744073709551616 := Nat.or_lt_two_pow (n := 64) (by omega) (by omega)
theorem firstN_lt {n : Nat} (hn : n ≤ 64) : firstN n < 18446744073709551616 := by
  have h : (2 : Nat) ^ n ≤ 2 ^ 64 := Nat.pow_le_pow_right (by omega) hn
  have h0 : 0 < (2 : Nat) ^ n := Nat.two_pow_pos n
  unfold firstN
  rw [Nat.one_shiftLeft]; omega
theorem wrap_pow (i : Nat) (hi : i < 64) : IntKind.u64.wrap ((2 : Int) ^ i) = ((1 <<< i : Nat) : Int) := by
  have h := shl_lt i hi
  have h2 : ((2 : Int) ^ i) = ((1 <<< i : Nat) : Int) := by rw [Nat.one_shiftLeft]; simp
  rw [IntKind.wrap_u64, h2]
  generalize 1 <<< i = q at *
  omega
end Go.Gr
namespace Go.Proofs.Tg
open Go.RowKit Go.Gr
/-- The library's table of the places of single bits. -/
def Tab (w : World) : Prop := 0 < w.heap.size ∧ ∀ j, j < 64 → w.cell? ⟨0, j, none⟩ = some (.int .u8 (Lib.deBruijn64tab.getD j 0))
theorem Tab.below {B : Nat} {w w' : World} (h : Tab w) (hb : Below B w w') (hB : 0 < B) : Tab w' :=
  ⟨Nat.lt_of_lt_of_le h.1 hb.size, fun j hj => (hb.cell (p := ⟨0, j, none⟩) hB).trans (h.2 j hj)⟩
theorem Tab.drewN {w : World} (h : Tab w) (n : Nat) : Tab (w.drewN n) := h
set_option maxHeartbeats 400000
theorem with_any (s i : Nat) (w : World) (hs : s < 18446744073709551616) (hi : i < 64) :
    Calls Tryz.prog 83 #[.int .u64 s, .int .i64 i] w fun e w' => e = .returned (.int .u64 (bset s i : Nat)) ∧ w = w' := by
  go_enter Tryz.func83, Tryz.ntmps83
  go_wp2
  go_ret
  refine ⟨?_, rfl⟩
  show Ending.returned (.int .u64 _) = _
  rw [wrap_pow i hi, u64_or_nat s _ hs (shl_lt i hi)]
  rfl
theorem without_any (s i : Nat) (w : World) (hs : s < 18446744073709551616) (hi : i < 64) :
    Calls Tryz.prog 137 #[.int .u64 s, .int .i64 i] w fun e w' => e = .returned (.int .u64 (bclr s i : Nat)) ∧ w = w' := by
  go_enter Tryz.func137, Tryz.ntmps137
  go_wp2
  go_ret
  refine ⟨?_, rfl⟩
  show Ending.returned (.int .u64 _) = _
  rw [wrap_pow i hi, u64_andNot_nat s _ hs (shl_lt i hi)]
  rfl
theorem has_key (s i : Nat) (hs : s < 18446744073709551616) : (bits BinOp.and IntKind.u64 ((s : Int) / 2 ^ i) 1 == 1) = s.testBit i := by
  have e : ((s : Int) / 2 ^ i) = ((s / 2 ^ i : Nat) : Int) := by simp
  have hl : s / 2 ^ i < 18446744073709551616 := Nat.lt_of_le_of_lt (Nat.div_le_self _ _) hs
  rw [e, show (1 : Int) = ((1 : Nat) : Int) from rfl, u64_and_nat _ 1 hl (by omega), Nat.and_one_is_mod, Nat.testBit_eq_decide_div_mod_eq]
  rw [Bool.eq_iff_iff]
  simp only [beq_iff_eq, decide_eq_true_eq]
  omega
theorem has_any (s i : Nat) (w : World) (hs : s < 18446744073709551616) (hi : i < 64) :
    Calls Tryz.prog 82 #[.int .u64 s, .int .i64 i] w fun e w' => e = .returned (.bool (s.testBit i)) ∧ w = w' := by
  go_enter Tryz.func82, Tryz.ntmps82
  go_wp2
  go_ret
  refine ⟨?_, rfl⟩
  show Ending.returned (.bool _) = _
  rw [has_key s i hs]
theorem first_any (n : Nat) (w : World) (hn : n ≤ 64) :
    Calls Tryz.prog 135 #[.int .i64 n] w fun e w' => e = .returned (.int .u64 (firstN n : Nat)) ∧ w = w' := by
  by_cases h : n = 64
  · subst h
    go_enter Tryz.func135, Tryz.ntmps135
    go_wp2
    go_ret
    refine ⟨?_, rfl⟩
    show Ending.returned (.int .u64 _) = _
    have : ((firstN 64 : Nat) : Int) = 18446744073709551615 := by decide +kernel
    rw [this]
  · have hlt : n < 64 := by omega
    clear h hn
    go_enter Tryz.func135, Tryz.ntmps135
    go_wp2
    go_ret
    refine ⟨?_, rfl⟩
    show Ending.returned (.int .u64 _) = _
    rw [wrap_pow n hlt]
    have h1 := shl_lt n hlt
    have h0 : 0 < 1 <<< n := by rw [Nat.one_shiftLeft]; exact Nat.two_pow_pos n
    have : IntKind.u64.wrap (((1 <<< n : Nat) : Int) - 1) = ((firstN n : Nat) : Int) := by
      rw [IntKind.wrap_u64]; unfold firstN; omega
    rw [this]
/-- The steps of OnesCount64. -/
def oc1 (x : Int) : Int := IntKind.u64.wrap (bits BinOp.and IntKind.u64 (x / 2) 6148914691236517205 + bits BinOp.and IntKind.u64 x 6148914691236517205)
def oc2 (x : Int) : Int := IntKind.u64.wrap (bits BinOp.and IntKind.u64 (x / 4) 3689348814741910323 + bits BinOp.and IntKind.u64 x 3689348814741910323)
def oc3 (x : Int) : Int := bits BinOp.and IntKind.u64 (IntKind.u64.wrap (x / 16 + x)) 1085102592571150095
def oc4 (x : Int) : Int := IntKind.u64.wrap (x + x / 256)
def oc5 (x : Int) : Int := IntKind.u64.wrap (x + x / 65536)
def oc6 (x : Int) : Int := IntKind.u64.wrap (x + x / 4294967296)
theorem wrap_nat (n : Nat) (h : n < 18446744073709551616) : IntKind.u64.wrap (n : Int) = (n : Int) := by rw [IntKind.wrap_u64]; omega
theorem oc1_nat (x : Nat) (hx : x < 18446744073709551616) : oc1 (x : Int) = (((x / 2 &&& 6148914691236517205) + (x &&& 6148914691236517205) : Nat) : Int) := by
  unfold oc1
  have h1 : x / 2 &&& 6148914691236517205 ≤ 6148914691236517205 := Nat.and_le_right
  have h2 : x &&& 6148914691236517205 ≤ 6148914691236517205 := Nat.and_le_right
  rw [show (x : Int) / 2 = ((x / 2 : Nat) : Int) by simp, show (6148914691236517205 : Int) = ((6148914691236517205 : Nat) : Int) from rfl, u64_and_nat _ _ (by omega) (by omega), u64_and_nat _ _ hx (by omega), ← Int.natCast_add]
  exact wrap_nat _ (by omega)
theorem oc2_nat (x : Nat) (hx : x < 18446744073709551616) : oc2 (x : Int) = (((x / 4 &&& 3689348814741910323) + (x &&& 3689348814741910323) : Nat) : Int) := by
  unfold oc2
  have h1 : x / 4 &&& 3689348814741910323 ≤ 3689348814741910323 := Nat.and_le_right
  have h2 : x &&& 3689348814741910323 ≤ 3689348814741910323 := Nat.and_le_right
  rw [show (x : Int) / 4 = ((x / 4 : Nat) : Int) by simp, show (3689348814741910323 : Int) = ((3689348814741910323 : Nat) : Int) from rfl, u64_and_nat _ _ (by omega) (by omega), u64_and_nat _ _ hx (by omega), ← Int.natCast_add]
  exact wrap_nat _ (by omega)
theorem oc3_nat (x : Nat) (hx : x ≤ 7378697629483820646) : oc3 (x : Int) = (((x / 16 + x) &&& 1085102592571150095 : Nat) : Int) := by
  unfold oc3
  rw [show (x : Int) / 16 + (x : Int) = ((x / 16 + x : Nat) : Int) by simp, wrap_nat _ (by omega), show (1085102592571150095 : Int) = ((1085102592571150095 : Nat) : Int) from rfl, u64_and_nat _ _ (by omega) (by omega)]
theorem oc_add (f : Int → Int) (m : Nat) (hf : ∀ x, f x = IntKind.u64.wrap (x + x / m)) (low q : Nat) (hl : low < m) (hb : low + m * q + q < 18446744073709551616) : f ((low + m * q : Nat) : Int) = ((low + m * q + q : Nat) : Int) := by
  have hd : (low + m * q) / m = q := by rw [Nat.add_mul_div_left _ _ (by omega), Nat.div_eq_of_lt hl, Nat.zero_add]
  rw [hf, ← Int.natCast_ediv, hd, ← Int.natCast_add]
  exact wrap_nat _ hb
theorem oc_all (s : Nat) (hs : s < 18446744073709551616) : bits BinOp.and IntKind.i64 (wrap64 (oc6 (oc5 (oc4 (oc3 (oc2 (oc1 s))))))) 127 = ((size s : Nat) : Int) := by
  have h1 : s / 2 &&& 6148914691236517205 ≤ 6148914691236517205 := Nat.and_le_right
  have h2 : s &&& 6148914691236517205 ≤ 6148914691236517205 := Nat.and_le_right
  rw [oc1_nat s hs]
  generalize ha : (s / 2 &&& 6148914691236517205) + (s &&& 6148914691236517205) = a
  have ha' : a < 18446744073709551616 := by omega
  have h3 : a / 4 &&& 3689348814741910323 ≤ 3689348814741910323 := Nat.and_le_right
  have h4 : a &&& 3689348814741910323 ≤ 3689348814741910323 := Nat.and_le_right
  rw [oc2_nat a ha', oc3_nat _ (by omega)]
  obtain ⟨c0, c1, c2, c3, c4, c5, c6, c7, b0, b1, b2, b3, b4, b5, b6, b7, hp, hw⟩ := swar_bits s
  have hsw : swar s = (((a / 4 &&& 3689348814741910323) + (a &&& 3689348814741910323)) / 16 + ((a / 4 &&& 3689348814741910323) + (a &&& 3689348814741910323))) &&& 1085102592571150095 := by
    unfold swar; dsimp only; rw [ha]
  rw [← hsw, hw, size_popc, hp]
  clear hsw hw hp h1 h2 h3 h4 ha ha'
  have e4 := oc_add oc4 256 (fun _ => rfl) (c0) (c1 + 256 * c2 + 65536 * c3 + 16777216 * c4 + 4294967296 * c5 + 1099511627776 * c6 + 281474976710656 * c7) (by omega) (by omega)
  have e5 := oc_add oc5 65536 (fun _ => rfl) ((c0 + c1) + 256 * (c1 + c2)) ((c2 + c3) + 256 * (c3 + c4) + 65536 * (c4 + c5) + 16777216 * (c5 + c6) + 4294967296 * (c6 + c7) + 1099511627776 * c7) (by omega) (by omega)
  have e6 := oc_add oc6 4294967296 (fun _ => rfl) ((c0 + c1 + c2 + c3) + 256 * (c1 + c2 + c3 + c4) + 65536 * (c2 + c3 + c4 + c5) + 16777216 * (c3 + c4 + c5 + c6)) ((c4 + c5 + c6 + c7) + 256 * (c5 + c6 + c7) + 65536 * (c6 + c7) + 16777216 * c7) (by omega) (by omega)
  rw [show c0 + 256 * c1 + 65536 * c2 + 16777216 * c3 + 4294967296 * c4 + 1099511627776 * c5 + 281474976710656 * c6 + 72057594037927936 * c7 = c0 + 256 * (c1 + 256 * c2 + 65536 * c3 + 16777216 * c4 + 4294967296 * c5 + 1099511627776 * c6 + 281474976710656 * c7) by omega, e4,
    show c0 + 256 * (c1 + 256 * c2 + 65536 * c3 + 16777216 * c4 + 4294967296 * c5 + 1099511627776 * c6 + 281474976710656 * c7) + (c1 + 256 * c2 + 65536 * c3 + 16777216 * c4 + 4294967296 * c5 + 1099511627776 * c6 + 281474976710656 * c7) =
      ((c0 + c1) + 256 * (c1 + c2)) + 65536 * ((c2 + c3) + 256 * (c3 + c4) + 65536 * (c4 + c5) + 16777216 * (c5 + c6) + 4294967296 * (c6 + c7) + 1099511627776 * c7) by omega, e5,
    show ((c0 + c1) + 256 * (c1 + c2)) + 65536 * ((c2 + c3) + 256 * (c3 + c4) + 65536 * (c4 + c5) + 16777216 * (c5 + c6) + 4294967296 * (c6 + c7) + 1099511627776 * c7) + ((c2 + c3) + 256 * (c3 + c4) + 65536 * (c4 + c5) + 16777216 * (c5 + c6) + 4294967296 * (c6 + c7) + 1099511627776 * c7) =
      ((c0 + c1 + c2 + c3) + 256 * (c1 + c2 + c3 + c4) + 65536 * (c2 + c3 + c4 + c5) + 16777216 * (c3 + c4 + c5 + c6)) + 4294967296 * ((c4 + c5 + c6 + c7) + 256 * (c5 + c6 + c7) + 65536 * (c6 + c7) + 16777216 * c7) by omega, e6]
  clear e4 e5 e6
  have hr : ((c0 + c1 + c2 + c3) + 256 * (c1 + c2 + c3 + c4) + 65536 * (c2 + c3 + c4 + c5) + 16777216 * (c3 + c4 + c5 + c6)) + 4294967296 * ((c4 + c5 + c6 + c7) + 256 * (c5 + c6 + c7) + 65536 * (c6 + c7) + 16777216 * c7) + ((c4 + c5 + c6 + c7) + 256 * (c5 + c6 + c7) + 65536 * (c6 + c7) + 16777216 * c7) < 9223372036854775808 := by omega
  have hm : (((c0 + c1 + c2 + c3) + 256 * (c1 + c2 + c3 + c4) + 65536 * (c2 + c3 + c4 + c5) + 16777216 * (c3 + c4 + c5 + c6)) + 4294967296 * ((c4 + c5 + c6 + c7) + 256 * (c5 + c6 + c7) + 65536 * (c6 + c7) + 16777216 * c7) + ((c4 + c5 + c6 + c7) + 256 * (c5 + c6 + c7) + 65536 * (c6 + c7) + 16777216 * c7)) % 128 = c0 + c1 + c2 + c3 + c4 + c5 + c6 + c7 := by
    rw [show ((c0 + c1 + c2 + c3) + 256 * (c1 + c2 + c3 + c4) + 65536 * (c2 + c3 + c4 + c5) + 16777216 * (c3 + c4 + c5 + c6)) + 4294967296 * ((c4 + c5 + c6 + c7) + 256 * (c5 + c6 + c7) + 65536 * (c6 + c7) + 16777216 * c7) + ((c4 + c5 + c6 + c7) + 256 * (c5 + c6 + c7) + 65536 * (c6 + c7) + 16777216 * c7) = (c0 + c1 + c2 + c3 + c4 + c5 + c6 + c7) + 128 * (2 * (c1 + c2 + c3 + c4) + 512 * (c2 + c3 + c4 + c5) + 131072 * (c3 + c4 + c5 + c6) + 33554432 * ((c4 + c5 + c6 + c7) + 256 * (c5 + c6 + c7) + 65536 * (c6 + c7) + 16777216 * c7) + 2 * (c5 + c6 + c7) + 512 * (c6 + c7) + 131072 * c7) by omega, Nat.add_mul_mod_self_left]
    exact Nat.mod_eq_of_lt (by omega)
  generalize ((c0 + c1 + c2 + c3) + 256 * (c1 + c2 + c3 + c4) + 65536 * (c2 + c3 + c4 + c5) + 16777216 * (c3 + c4 + c5 + c6)) + 4294967296 * ((c4 + c5 + c6 + c7) + 256 * (c5 + c6 + c7) + 65536 * (c6 + c7) + 16777216 * c7) + ((c4 + c5 + c6 + c7) + 256 * (c5 + c6 + c7) + 65536 * (c6 + c7) + 16777216 * c7) = r at hr hm ⊢
  have hsum : c0 + c1 + c2 + c3 + c4 + c5 + c6 + c7 ≤ 64 := by omega
  generalize c0 + c1 + c2 + c3 + c4 + c5 + c6 + c7 = t at hm hsum ⊢
  clear b0 b1 b2 b3 b4 b5 b6 b7
  have w1 : wrap64 (r : Int) = (r : Int) := by unfold wrap64; omega
  rw [w1, show (127 : Int) = ((127 : Nat) : Int) from rfl]
  have hx : (BitVec.ofInt 64 (r : Int)).toNat = r := by rw [BitVec.ofInt_natCast, BitVec.toNat_ofNat]; exact Nat.mod_eq_of_lt (by omega)
  show IntKind.i64.wrap ((BitVec.ofInt 64 (r : Int) &&& BitVec.ofInt 64 ((127 : Nat) : Int)).toNat : Int) = _
  have h127 : (BitVec.ofInt 64 ((127 : Nat) : Int)).toNat = 127 := by decide
  rw [BitVec.toNat_and, hx, h127, Nat.and_two_pow_sub_one_eq_mod r 7, IntKind.wrap_i64]
  omega
theorem ones_any (s : Nat) (w : World) (hs : s < 18446744073709551616) :
    Calls Tryz.prog 150 #[.int .u64 s] w fun e w' => e = .returned (.int .i64 (size s : Nat)) ∧ w = w' := by
  go_enter Tryz.func150, Tryz.ntmps150
  go_wp2
  go_ret
  refine ⟨?_, rfl⟩
  show Ending.returned (.int .i64 (bits BinOp.and IntKind.i64 (wrap64 (oc6 (oc5 (oc4 (oc3 (oc2 (oc1 s))))))) 127)) = _
  rw [oc_all s hs]
theorem size_any (s : Nat) (w : World) (hs : s < 18446744073709551616) :
    Calls Tryz.prog 136 #[.int .u64 s] w fun e w' => e = .returned (.int .i64 (size s : Nat)) ∧ w = w' := by
  have hl : size s ≤ 64 := size_le s
  have hw := wrap_nat s hs
  go_enter Tryz.func136, Tryz.ntmps136
  go_wp2_with (go_at_call 150; refine (ones_any _ _ hs).mono ?_; rintro e w' ⟨rfl, rfl⟩)
  go_ret
  exact ⟨rfl, rfl⟩
theorem tz_core (x k idx : Nat) (w : World) (hx0 : ((x : Int) == 0) = false)
    (key : IntKind.u64.wrap (bits BinOp.and IntKind.u64 (x : Int) (IntKind.u64.wrap (-(x : Int))) * 285870213051353865) / 288230376151711744 = (idx : Int))
    (hi : idx < 64) (hk : k < 64) (hcell : w.cell? ⟨0, idx, none⟩ = some (.int .u8 k)) :
    Calls Tryz.prog 119 #[.int .u64 x] w fun e w' => e = .returned (.int .i64 k) ∧ w = w' := by
  go_enter Tryz.func119, Tryz.ntmps119
  go_wp2_with (simp only [key])
  go_ret
  exact ⟨rfl, rfl⟩
theorem tz_key (x a : Nat) (hx : x < 18446744073709551616) (hx0 : x ≠ 0) (hlow : x &&& (18446744073709551616 - x) = a) :
    IntKind.u64.wrap (bits BinOp.and IntKind.u64 (x : Int) (IntKind.u64.wrap (-(x : Int))) * 285870213051353865) / 288230376151711744 = ((a * 285870213051353865 % 18446744073709551616 / 288230376151711744 : Nat) : Int) := by
  have e1 : IntKind.u64.wrap (-(x : Int)) = ((18446744073709551616 - x : Nat) : Int) := by rw [IntKind.wrap_u64]; omega
  rw [e1, u64_and_nat x _ hx (by omega), hlow, IntKind.wrap_u64]
  omega
/-- The least element of a set, if there is one. -/
theorem tz_any (x : Nat) (w : World) (hx : x < 18446744073709551616) (hx0 : x ≠ 0) (hT : Tab w) :
    Calls Tryz.prog 119 #[.int .u64 x] w fun e w' => e = .returned (.int .i64 (Lib.ctz 64 x : Nat)) ∧ w = w' := by
  obtain ⟨hlow, hk⟩ := Lib.lowest_bit 64 x hx0 hx
  obtain ⟨hi, htab⟩ := Lib.deBruijn64_at _ hk
  have hcell := hT.2 _ hi
  rw [htab] at hcell
  exact tz_core x _ _ w (by simp; omega) (tz_key x _ hx hx0 hlow) hi hk hcell
theorem verts_cons (x : Nat) (hx : x < 18446744073709551616) (hx0 : x ≠ 0) : verts x = Lib.ctz 64 x :: verts (x &&& (x - 1)) ∧ (x &&& (x - 1)) < x := by
  obtain ⟨m, hm, hk⟩ := Lib.ctzFrom_spec 64 x (by omega) (by omega)
  have : Lib.ctz 64 x = Lib.ctzFrom 64 x := by unfold Lib.ctz; rw [if_neg hx0]
  rw [this]
  exact verts_step x _ m hm hk
end Go.Proofs.Tg
