/- Parts of the proof: WA, E2, WB1, N1, M1, WM1, WD2, WS1. -/
import Derived.Test.YtodjofbneeejpaaGreatDoorProg
import Derived.WalkKit
import Derived.WalkSpells
import Derived.WalkLawsBesides
import Derived.Laws.BitsAllLaws
import Derived.Lib.TrailingZeros
import Derived.Laws.Bits64b
import Derived.Deep.QuietTactic
import Derived.BigQuiet
import Derived.Lib.Hide
import Derived.Laws.ShiftsVarLaws
import Derived.Lib.ItoaNum
import Derived.Lib.Strings
import Derived.Lib.IndexBytes
import Derived.Outline
import Derived.Test.YtodjofbneeejpaaGreatDoorMBD0
section
/- What the small functions of package graph and of math/bits compute: sets of numbers below 64 as bits. -/
namespace Go.Gr
def bset (s i : Nat) : Nat := s ||| (1 <<< i)
end Go.Gr
namespace Go.Proofs.Tg
open Go.RowKit Go.Gr
set_option maxHeartbeats 400000
/-- The steps of OnesCount64. -/
def oc1 (x : Int) : Int := IntKind.u64.wrap (bits BinOp.and IntKind.u64 (x / 2) 6148914691236517205 + bits BinOp.and IntKind.u64 x 6148914691236517205)
def oc2 (x : Int) : Int := IntKind.u64.wrap (bits BinOp.and IntKind.u64 (x / 4) 3689348814741910323 + bits BinOp.and IntKind.u64 x 3689348814741910323)
def oc3 (x : Int) : Int := bits BinOp.and IntKind.u64 (IntKind.u64.wrap (x / 16 + x)) 1085102592571150095
def oc4 (x : Int) : Int := IntKind.u64.wrap (x + x / 256)
def oc5 (x : Int) : Int := IntKind.u64.wrap (x + x / 65536)
def oc6 (x : Int) : Int := IntKind.u64.wrap (x + x / 4294967296)
theorem wrap_nat (n : Nat) (h : n < 18446744073709551616) : IntKind.u64.wrap (n : Int) = (n : Int) := by rw [IntKind.wrap_u64]; omega
theorem oc1_nat (x : Nat) (hx : x < 18446744073709551616) : oc1 (x : Int) = (((x / 2 &&& 6148914691236517205) + (x &&& 6148914691236517205) : Nat) : Int) := by
 unfold oc1
 have h1 : x / 2 &&& 6148914691236517205 ≤ 6148914691236517205 := Nat.and_le_right
 have h2 : x &&& 6148914691236517205 ≤ 6148914691236517205 := Nat.and_le_right
 rw [show (x : Int) / 2 = ((x / 2 : Nat) : Int) by simp, show (6148914691236517205 : Int) = ((6148914691236517205 : Nat) : Int) from rfl, u64_and_nat _ _ (by omega) (by omega), u64_and_nat _ _ hx (by omega), ← Int.natCast_add]
 exact wrap_nat _ (by omega)
theorem oc2_nat (x : Nat) (hx : x < 18446744073709551616) : oc2 (x : Int) = (((x / 4 &&& 3689348814741910323) + (x &&& 3689348814741910323) : Nat) : Int) := by
 unfold oc2
 have h1 : x / 4 &&& 3689348814741910323 ≤ 3689348814741910323 := Nat.and_le_right
 have h2 : x &&& 3689348814741910323 ≤ 3689348814741910323 := Nat.and_le_right
 rw [show (x : Int) / 4 = ((x / 4 : Nat) : Int) by simp, show (3689348814741910323 : Int) = ((3689348814741910323 : Nat) : Int) from rfl, u64_and_nat _ _ (by omega) (by omega), u64_and_nat _ _ hx (by omega), ← Int.natCast_add]
 exact wrap_nat _ (by omega)
theorem oc3_nat (x : Nat) (hx : x ≤ 7378697629483820646) : oc3 (x : Int) = (((x / 16 + x) &&& 1085102592571150095 : Nat) : Int) := by
 unfold oc3
 rw [show (x : Int) / 16 + (x : Int) = ((x / 16 + x : Nat) : Int) by simp, wrap_nat _ (by omega), show (1085102592571150095 : Int) = ((1085102592571150095 : Nat) : Int) from rfl, u64_and_nat _ _ (by omega) (by omega)]
theorem oc_add (f : Int → Int) (m : Nat) (hf : ∀ x, f x = IntKind.u64.wrap (x + x / m)) (low q : Nat) (hl : low < m) (hb : low + m * q + q < 18446744073709551616) : f ((low + m * q : Nat) : Int) = ((low + m * q + q : Nat) : Int) := by
 have hd : (low + m * q) / m = q := by rw [Nat.add_mul_div_left _ _ (by omega), Nat.div_eq_of_lt hl, Nat.zero_add]
 rw [hf, ← Int.natCast_ediv, hd, ← Int.natCast_add]
 exact wrap_nat _ hb
theorem oc_all (s : Nat) (hs : s < 18446744073709551616) : bits BinOp.and IntKind.i64 (wrap64 (oc6 (oc5 (oc4 (oc3 (oc2 (oc1 s))))))) 127 = ((size s : Nat) : Int) := by
 have h1 : s / 2 &&& 6148914691236517205 ≤ 6148914691236517205 := Nat.and_le_right
 have h2 : s &&& 6148914691236517205 ≤ 6148914691236517205 := Nat.and_le_right
 rw [oc1_nat s hs]
 generalize ha : (s / 2 &&& 6148914691236517205) + (s &&& 6148914691236517205) = a
 have ha' : a < 18446744073709551616 := by omega
 have h3 : a / 4 &&& 3689348814741910323 ≤ 3689348814741910323 := Nat.and_le_right
 have h4 : a &&& 3689348814741910323 ≤ 3689348814741910323 := Nat.and_le_right
 rw [oc2_nat a ha', oc3_nat _ (by omega)]
 obtain ⟨c0, c1, c2, c3, c4, c5, c6, c7, b0, b1, b2, b3, b4, b5, b6, b7, hp, hw⟩ := swar_bits s
 have hsw : swar s = (((a / 4 &&& 3689348814741910323) + (a &&& 3689348814741910323)) / 16 + ((a / 4 &&& 3689348814741910323) + (a &&& 3689348814741910323))) &&& 1085102592571150095 := by
  unfold swar; dsimp only; rw [ha]
 rw [← hsw, hw, size_popc, hp]
 clear hsw hw hp h1 h2 h3 h4 ha ha'
 have e4 := oc_add oc4 256 (fun _ => rfl) (c0) (c1 + 256 * c2 + 65536 * c3 + 16777216 * c4 + 4294967296 * c5 + 1099511627776 * c6 + 281474976710656 * c7) (by omega) (by omega)
 have e5 := oc_add oc5 65536 (fun _ => rfl) ((c0 + c1) + 256 * (c1 + c2)) ((c2 + c3) + 256 * (c3 + c4) + 65536 * (c4 + c5) + 16777216 * (c5 + c6) + 4294967296 * (c6 + c7) + 1099511627776 * c7) (by omega) (by omega)
 have e6 := oc_add oc6 4294967296 (fun _ => rfl) ((c0 + c1 + c2 + c3) + 256 * (c1 + c2 + c3 + c4) + 65536 * (c2 + c3 + c4 + c5) + 16777216 * (c3 + c4 + c5 + c6)) ((c4 + c5 + c6 + c7) + 256 * (c5 + c6 + c7) + 65536 * (c6 + c7) + 16777216 * c7) (by omega) (by omega)
 rw [show c0 + 256 * c1 + 65536 * c2 + 16777216 * c3 + 4294967296 * c4 + 1099511627776 * c5 + 281474976710656 * c6 + 72057594037927936 * c7 = c0 + 256 * (c1 + 256 * c2 + 65536 * c3 + 16777216 * c4 + 4294967296 * c5 + 1099511627776 * c6 + 281474976710656 * c7) by omega, e4,
   show c0 + 256 * (c1 + 256 * c2 + 65536 * c3 + 16777216 * c4 + 4294967296 * c5 + 1099511627776 * c6 + 281474976710656 * c7) + (c1 + 256 * c2 + 65536 * c3 + 16777216 * c4 + 4294967296 * c5 + 1099511627776 * c6 + 281474976710656 * c7) =
     ((c0 + c1) + 256 * (c1 + c2)) + 65536 * ((c2 + c3) + 256 * (c3 + c4) + 65536 * (c4 + c5) + 16777216 * (c5 + c6) + 4294967296 * (c6 + c7) + 1099511627776 * c7) by omega, e5,
   show ((c0 + c1) + 256 * (c1 + c2)) + 65536 * ((c2 + c3) + 256 * (c3 + c4) + 65536 * (c4 + c5) + 16777216 * (c5 + c6) + 4294967296 * (c6 + c7) + 1099511627776 * c7) + ((c2 + c3) + 256 * (c3 + c4) + 65536 * (c4 + c5) + 16777216 * (c5 + c6) + 4294967296 * (c6 + c7) + 1099511627776 * c7) =
     ((c0 + c1 + c2 + c3) + 256 * (c1 + c2 + c3 + c4) + 65536 * (c2 + c3 + c4 + c5) + 16777216 * (c3 + c4 + c5 + c6)) + 4294967296 * ((c4 + c5 + c6 + c7) + 256 * (c5 + c6 + c7) + 65536 * (c6 + c7) + 16777216 * c7) by omega, e6]
 clear e4 e5 e6
 have hr : ((c0 + c1 + c2 + c3) + 256 * (c1 + c2 + c3 + c4) + 65536 * (c2 + c3 + c4 + c5) + 16777216 * (c3 + c4 + c5 + c6)) + 4294967296 * ((c4 + c5 + c6 + c7) + 256 * (c5 + c6 + c7) + 65536 * (c6 + c7) + 16777216 * c7) + ((c4 + c5 + c6 + c7) + 256 * (c5 + c6 + c7) + 65536 * (c6 + c7) + 16777216 * c7) < 9223372036854775808 := by omega
 have hm : (((c0 + c1 + c2 + c3) + 256 * (c1 + c2 + c3 + c4) + 65536 * (c2 + c3 + c4 + c5) + 16777216 * (c3 + c4 + c5 + c6)) + 4294967296 * ((c4 + c5 + c6 + c7) + 256 * (c5 + c6 + c7) + 65536 * (c6 + c7) + 16777216 * c7) + ((c4 + c5 + c6 + c7) + 256 * (c5 + c6 + c7) + 65536 * (c6 + c7) + 16777216 * c7)) % 128 = c0 + c1 + c2 + c3 + c4 + c5 + c6 + c7 := by
  rw [show ((c0 + c1 + c2 + c3) + 256 * (c1 + c2 + c3 + c4) + 65536 * (c2 + c3 + c4 + c5) + 16777216 * (c3 + c4 + c5 + c6)) + 4294967296 * ((c4 + c5 + c6 + c7) + 256 * (c5 + c6 + c7) + 65536 * (c6 + c7) + 16777216 * c7) + ((c4 + c5 + c6 + c7) + 256 * (c5 + c6 + c7) + 65536 * (c6 + c7) + 16777216 * c7) = (c0 + c1 + c2 + c3 + c4 + c5 + c6 + c7) + 128 * (2 * (c1 + c2 + c3 + c4) + 512 * (c2 + c3 + c4 + c5) + 131072 * (c3 + c4 + c5 + c6) + 33554432 * ((c4 + c5 + c6 + c7) + 256 * (c5 + c6 + c7) + 65536 * (c6 + c7) + 16777216 * c7) + 2 * (c5 + c6 + c7) + 512 * (c6 + c7) + 131072 * c7) by omega, Nat.add_mul_mod_self_left]
  exact Nat.mod_eq_of_lt (by omega)
 generalize ((c0 + c1 + c2 + c3) + 256 * (c1 + c2 + c3 + c4) + 65536 * (c2 + c3 + c4 + c5) + 16777216 * (c3 + c4 + c5 + c6)) + 4294967296 * ((c4 + c5 + c6 + c7) + 256 * (c5 + c6 + c7) + 65536 * (c6 + c7) + 16777216 * c7) + ((c4 + c5 + c6 + c7) + 256 * (c5 + c6 + c7) + 65536 * (c6 + c7) + 16777216 * c7) = r at hr hm ⊢
 have hsum : c0 + c1 + c2 + c3 + c4 + c5 + c6 + c7 ≤ 64 := by omega
 generalize c0 + c1 + c2 + c3 + c4 + c5 + c6 + c7 = t at hm hsum ⊢
 clear b0 b1 b2 b3 b4 b5 b6 b7
 have w1 : wrap64 (r : Int) = (r : Int) := by unfold wrap64; omega
 rw [w1, show (127 : Int) = ((127 : Nat) : Int) from rfl]
 have hx : (BitVec.ofInt 64 (r : Int)).toNat = r := by rw [BitVec.ofInt_natCast, BitVec.toNat_ofNat]; exact Nat.mod_eq_of_lt (by omega)
 show IntKind.i64.wrap ((BitVec.ofInt 64 (r : Int) &&& BitVec.ofInt 64 ((127 : Nat) : Int)).toNat : Int) = _
 have h127 : (BitVec.ofInt 64 ((127 : Nat) : Int)).toNat = 127 := by decide
 rw [BitVec.toNat_and, hx, h127, Nat.and_two_pow_sub_one_eq_mod r 7, IntKind.wrap_i64]
 omega
theorem ones_any (s : Nat) (w : World) (hs : s < 18446744073709551616) :
    Calls Tryz.prog 84 #[.int .u64 s] w fun e w' => e = .returned (.int .i64 (size s : Nat)) ∧ w = w' := by
  go_enter Tryz.func84, Tryz.ntmps84
  go_wp2
  go_ret
  refine ⟨?_, rfl⟩
  show Ending.returned (.int .i64 (bits BinOp.and IntKind.i64 (wrap64 (oc6 (oc5 (oc4 (oc3 (oc2 (oc1 s))))))) 127)) = _
  rw [oc_all s hs]
end Go.Proofs.Tg
end
section
/- Parities: the inner product modulo 2 of a list of exponents and a sign vector, by sums and by bits. Plain numbers. -/
namespace Go.Ev
open Go.Gr
/-- A list of numbers as bits: bit i is the parity of number i. -/
def pk (l : List Int) : Nat → Nat
  | 0 => 0
  | k + 1 => pk l k ^^^ (((l.getD k 0).toNat % 2) <<< k)
end Go.Ev
end
section
/- Walks: sign vectors as bits. -/
namespace Go.Proofs.Tg
open Go.RowKit Go.Gr
set_option maxHeartbeats 1000000
set_option maxRecDepth 100000
theorem i64_and_n (a b : Nat) (ha : a < 9223372036854775808) (hb : b < 9223372036854775808) : bits BinOp.and IntKind.i64 (a : Int) (b : Int) = ((a &&& b : Nat) : Int) := by
 have hx : a &&& b < 2 ^ 63 := Nat.and_lt_two_pow _ (by omega)
 show IntKind.i64.wrap ((BitVec.ofInt 64 (a : Int) &&& BitVec.ofInt 64 (b : Int)).toNat : Int) = _
 rw [BitVec.toNat_and, ofInt_u64 a (by omega), ofInt_u64 b (by omega), IntKind.wrap_i64]
 omega
theorem ones_w (s : Nat) (w : World) (hs : s < 18446744073709551616) :
    Calls Tryz.prog 63 #[.int .u64 s] w fun e w' => e = .returned (.int .i64 (size s : Nat)) ∧ w = w' := by
  go_enter Tryz.func63, Tryz.ntmps63
  go_wp2_with (go_at_call 84; refine (ones_any s _ hs).mono ?_; rintro e w' ⟨rfl, rfl⟩)
  go_ret
  exact ⟨rfl, rfl⟩
theorem int_info : (Tryz.prog.info? 3).map (fun i => (i.zero, i.size, i.bytes)) = some (some (.int .i64 0), 1, 8) := by kernel_rfl
theorem make_ints (l n : Nat) (hl : l ≤ n) (hn : n ≤ 1000000) (w : World) : (Instr.makeSlice 22 (.int .i64 (l : Int)) (.int .i64 (n : Int))).run Tryz.prog w = .ok (.slice (some ⟨w.heap.size, 0, none⟩) l n) (w.alloc (.cells (madeCells #[.int .i64 0] n) 3)) := by
 obtain ⟨i0, hi, hz0, hz1, hz2⟩ := info_parts int_info
 have hr := run_make (P := Tryz.prog) w 22 3 i0 (.int .i64 0) Tryz.underlying22 hi hz0 .i64 .i64 l n (by omega) (by omega) (by rw [hz2]; omega) (by omega)
 rw [hz1, Nat.mul_one, Int.toNat_natCast, Int.toNat_natCast] at hr
 exact hr
end Go.Proofs.Tg
end
section
/- Decimal texts of rational numbers: what the program accepts and what the reference accepts is the same. Plain lists of bytes. -/
namespace Go.Qn
open Go.Lib
def isD (c : UInt8) : Bool := decide (48 ≤ c.toNat) && decide (c.toNat ≤ 57)
def val (l : List UInt8) : Nat := l.foldl (fun n c => 10 * n + (c.toNat - 48)) 0
theorem val_snoc (l : List UInt8) (c : UInt8) : val (l ++ [c]) = 10 * val l + (c.toNat - 48) := by unfold val; rw [List.foldl_append]; rfl
theorem isD_iff {c : UInt8} : isD c = true ↔ 48 ≤ c.toNat ∧ c.toNat ≤ 57 := by unfold isD; simp
theorem snoc_ind {P : List UInt8 → Prop} (h0 : P []) (h1 : ∀ l c, P l → P (l ++ [c])) (l : List UInt8) : P l := by
 have : ∀ l : List UInt8, P l.reverse := by
  intro l
  induction l with
  | nil => exact h0
  | cons c l ih => rw [List.reverse_cons]; exact h1 _ _ ih
 have h := this l.reverse
 rwa [List.reverse_reverse] at h
theorem val_lt (l : List UInt8) (h : ∀ c ∈ l, isD c = true) : val l < 10 ^ l.length := by
 revert h
 refine snoc_ind (P := fun l => (∀ c ∈ l, isD c = true) → val l < 10 ^ l.length) ?_ ?_ l
 ·intro _; decide
 ·intro l c ih h
  have h1 := ih fun x hx => h x (by simp [hx])
  have h2 := isD_iff.1 (h c (by simp))
  rw [val_snoc, List.length_append, List.length_singleton, Nat.pow_succ]
  omega
theorem toNat_ofNat (n : Nat) (h : n < 256) : (UInt8.ofNat n).toNat = n := by simp; omega
theorem dec_ne (n : Nat) : decDigits n ≠ [] := by
 rw [decDigits]; split <;> simp
theorem dec_zero : decDigits 0 = [48] := by rw [decDigits, dif_pos (by omega)]; rfl
theorem dec_val (l : List UInt8) (h : ∀ c ∈ l, isD c = true) (hn : l ≠ []) (hz : l.head? ≠ some 48) : decDigits (val l) = l ∧ val l ≠ 0 := by
 revert h hn hz
 refine snoc_ind (P := fun l => (∀ c ∈ l, isD c = true) → l ≠ [] → l.head? ≠ some 48 → decDigits (val l) = l ∧ val l ≠ 0) ?_ ?_ l
 ·intro _ h; exact absurd rfl h
 ·intro l c ih h _ hz
  have h2 := isD_iff.1 (h c (by simp))
  rw [val_snoc]
  by_cases hl : l = []
  ·subst hl
   have hc : c.toNat ≠ 48 := fun e => hz (by
    have : c = 48 := UInt8.toNat_inj.1 (by rw [e]; rfl)
    simp [this])
   refine ⟨?_, by omega⟩
   show decDigits (10 * 0 + (c.toNat - 48)) = [c]
   rw [decDigits, dif_pos (by omega)]
   simp only [List.cons.injEq, and_true]
   apply UInt8.toNat_inj.1
   rw [toNat_ofNat _ (by omega)]; omega
  ·have hz' : l.head? ≠ some 48 := by
    rw [List.head?_append] at hz
    cases hh : l.head? with
    | none => simp
    | some x => rw [hh] at hz; simpa using hz
   obtain ⟨h3, h4⟩ := ih (fun x hx => h x (by simp [hx])) hl hz'
   refine ⟨?_, by omega⟩
   rw [decDigits, dif_neg (by omega), show (10 * val l + (c.toNat - 48)) / 10 = val l by omega, h3]
   congr 1
   simp only [List.cons.injEq, and_true]
   apply UInt8.toNat_inj.1
   rw [toNat_ofNat _ (by omega)]; omega
/-- The text of a number in lowest terms. -/
def text (neg : Bool) (n d : Nat) : List UInt8 := (if neg = true then [45] else []) ++ (decDigits n ++ if d = 1 then [] else 47 :: decDigits d)
def cut (l : List UInt8) : Bool × List UInt8 := if l.head? = some 45 then (true, l.tail) else (false, l)
/-- What the program reads. -/
def rdTail (neg : Bool) (num rest : List UInt8) : Option (Bool × Nat × Nat) :=
  match rest with
  | [] => some (neg, val num, 1)
  | c :: t => if c = 47 ∧ t.dropWhile isD = [] ∧ t.takeWhile isD ≠ [] ∧ (t.takeWhile isD).head? ≠ some 48 ∧ t.takeWhile isD ≠ [49] ∧ Nat.gcd (val num) (val (t.takeWhile isD)) = 1 then some (neg, val num, val (t.takeWhile isD)) else none
def rdBody (neg : Bool) (r : List UInt8) : Option (Bool × Nat × Nat) :=
  if r.takeWhile isD = [48] then (if neg = false ∧ r.dropWhile isD = [] then some (false, 0, 1) else none)
  else if r.takeWhile isD = [] ∨ (r.takeWhile isD).head? = some 48 then none
  else rdTail neg (r.takeWhile isD) (r.dropWhile isD)
def rd (l : List UInt8) : Option (Bool × Nat × Nat) := rdBody (cut l).1 (cut l).2
theorem tw_app {p : UInt8 → Bool} (a b : List UInt8) (ha : ∀ c ∈ a, p c = true) (hb : b = [] ∨ ∃ c t, b = c :: t ∧ p c = false) : (a ++ b).takeWhile p = a ∧ (a ++ b).dropWhile p = b := by
 induction a with
 | nil =>
   rcases hb with rfl | ⟨c, t, rfl, hc⟩
   ·simp
   ·simp [hc]
 | cons x a ih =>
   have := ih fun c hc => ha c (by simp [hc])
   simp [ha x (by simp), this]
theorem tw_all {p : UInt8 → Bool} (l : List UInt8) : ∀ c ∈ l.takeWhile p, p c = true := by
 exact List.all_eq_true.1 List.all_takeWhile
/-! The reference: cut at the first '/', read both parts, divide by the greatest common divisor, write, compare. -/
def numOk (l : List UInt8) : Bool := l.all isD && !l.isEmpty
theorem numOk_iff {l : List UInt8} : numOk l = true ↔ (∀ c ∈ l, isD c = true) ∧ l ≠ [] := by unfold numOk; simp
/-! The parts of a text. -/
def SplitIs (l : List UInt8) (b : Bool) (num den : List UInt8) (ok : Bool) : Prop :=
  num.length ≤ l.length ∧ den.length ≤ l.length ∧ (ok = false → rd l = none) ∧
  (ok = true → numOk num = true ∧ (den = [] → rd l = some (b, val num, 1)) ∧ (den ≠ [] → numOk den = true ∧ val num ≠ 0 ∧ val den ≠ 0 ∧ rd l = if Nat.gcd (val num) (val den) = 1 then some (b, val num, val den) else none))
theorem cut_len (l : List UInt8) : (cut l).2.length ≤ l.length := by
 unfold cut; split
 ·simp
 ·exact Nat.le_refl _
theorem tw_len (p : UInt8 → Bool) (l : List UInt8) : (l.takeWhile p).length ≤ l.length := by
 have h := congrArg List.length (List.takeWhile_append_dropWhile (p := p) (l := l))
 rw [List.length_append] at h; omega
theorem dw_len (p : UInt8 → Bool) (l : List UInt8) : (l.dropWhile p).length ≤ l.length := by
 have h := congrArg List.length (List.takeWhile_append_dropWhile (p := p) (l := l))
 rw [List.length_append] at h; omega
section
variable {l r : List UInt8} {b : Bool} (hc : cut l = (b, r))
include hc
theorem spl_len : (r.takeWhile isD).length ≤ l.length ∧ r.length ≤ l.length := by
 have h1 := cut_len l
 have h2 := tw_len isD r
 rw [hc] at h1
 exact ⟨Nat.le_trans h2 h1, h1⟩
theorem rd_of : rd l = rdBody b r := by unfold rd; rw [hc]
theorem spl_zero (h : r.takeWhile isD = [48]) : SplitIs l b (r.takeWhile isD) [] (!b && (r.dropWhile isD).isEmpty) := by
 refine ⟨(spl_len hc).1, by simp, fun e => ?_, fun e => ⟨by rw [h]; rfl, fun _ => ?_, fun e => absurd rfl e⟩⟩
 ·rw [rd_of hc, rdBody, if_pos h, if_neg]
  rintro ⟨h1, h2⟩
  rw [h1, h2] at e; cases e
 ·rw [rd_of hc, rdBody, if_pos h, h]
  cases b with
  | true => cases e
  | false =>
    have : r.dropWhile isD = [] := by simpa using e
    rw [if_pos ⟨rfl, this⟩]; rfl
theorem spl_bad (h : r.takeWhile isD ≠ [48]) (h2 : r.takeWhile isD = [] ∨ (r.takeWhile isD).head? = some 48) : SplitIs l b (r.takeWhile isD) [] false :=
  ⟨(spl_len hc).1, by simp, fun _ => by rw [rd_of hc, rdBody, if_neg h, if_pos h2], fun e => by cases e⟩
theorem spl_whole (h : r.takeWhile isD ≠ [48]) (h2 : ¬ (r.takeWhile isD = [] ∨ (r.takeWhile isD).head? = some 48)) (h3 : r.dropWhile isD = []) : SplitIs l b (r.takeWhile isD) [] true :=
  ⟨(spl_len hc).1, by simp, fun e => (by cases e), fun _ => ⟨numOk_iff.2 ⟨tw_all _, fun e => h2 (.inl e)⟩, fun _ => by rw [rd_of hc, rdBody, if_neg h, if_neg h2, h3]; rfl, fun e => absurd rfl e⟩⟩
theorem spl_slash (h : r.takeWhile isD ≠ [48]) (h2 : ¬ (r.takeWhile isD = [] ∨ (r.takeWhile isD).head? = some 48)) {c : UInt8} {t : List UInt8} (h3 : r.dropWhile isD = c :: t) (h4 : c ≠ 47) : SplitIs l b (r.takeWhile isD) [] false :=
  ⟨(spl_len hc).1, by simp, fun _ => by rw [rd_of hc, rdBody, if_neg h, if_neg h2, h3, rdTail, if_neg (fun e => h4 e.1)], fun e => by cases e⟩
theorem spl_den (h : r.takeWhile isD ≠ [48]) (h2 : ¬ (r.takeWhile isD = [] ∨ (r.takeWhile isD).head? = some 48)) {t : List UInt8} (h3 : r.dropWhile isD = 47 :: t) {ok : Bool}
    (hok : ok = true ↔ t.dropWhile isD = [] ∧ t.takeWhile isD ≠ [] ∧ (t.takeWhile isD).head? ≠ some 48 ∧ t.takeWhile isD ≠ [49]) : SplitIs l b (r.takeWhile isD) (t.takeWhile isD) ok := by
  refine ⟨(spl_len hc).1, ?_, fun e => ?_, fun e => ⟨numOk_iff.2 ⟨tw_all _, fun e => h2 (.inl e)⟩, fun e2 => absurd e2 (hok.1 e).2.1, fun _ => ⟨numOk_iff.2 ⟨tw_all _, (hok.1 e).2.1⟩, (dec_val _ (tw_all _) (fun e => h2 (.inl e)) (fun e => h2 (.inr e))).2, (dec_val _ (tw_all _) (hok.1 e).2.1 (hok.1 e).2.2.1).2, ?_⟩⟩⟩
  ·have a1 := tw_len isD t
   have a2 := dw_len isD r
   have a3 := (spl_len hc).2
   rw [h3, List.length_cons] at a2
   omega
  ·rw [rd_of hc, rdBody, if_neg h, if_neg h2, h3, rdTail, if_neg]
   rintro ⟨_, a, b, c, d, _⟩
   rw [hok.2 ⟨a, b, c, d⟩] at e; cases e
  ·obtain ⟨a, b, c, d⟩ := hok.1 e
   rw [rd_of hc, rdBody, if_neg h, if_neg h2, h3, rdTail]
   by_cases g : Nat.gcd (val (r.takeWhile isD)) (val (t.takeWhile isD)) = 1
   ·rw [if_pos ⟨rfl, a, b, c, d, g⟩, if_pos g]
   ·rw [if_neg (fun h => g h.2.2.2.2.2), if_neg g]
end
end Go.Qn
end
section
/- Monomials and polynomials as plain lists: their order, when they are valid. -/
namespace Go.Mo
open Go.Qn
def vldM (m : List Int) : Bool := decide (m.length ≤ 6 ∧ (∀ e ∈ m, 0 ≤ e) ∧ m.sum ≤ 24)
def degM (m : List Int) : Int := if vldM m = true then m.sum else -1
theorem sum_nonneg : ∀ (l : List Int), (∀ e ∈ l, 0 ≤ e) → 0 ≤ l.sum
  | [], _ => by simp
  | x :: l, h => by
    have h1 := h x (by simp)
    have h2 := sum_nonneg l fun e he => h e (by simp [he])
    rw [List.sum_cons]; omega
theorem sum_take_le (l : List Int) (k : Nat) (h : ∀ e ∈ l, 0 ≤ e) : (l.take k).sum ≤ l.sum := by
 have h1 : l.sum = (l.take k).sum + (l.drop k).sum := by rw [← List.sum_append, List.take_append_drop]
 have h2 := sum_nonneg (l.drop k) fun e he => h e (List.mem_of_mem_drop he)
 omega
theorem sum_take_succ (l : List Int) (k : Nat) (hk : k < l.length) : (l.take (k + 1)).sum = (l.take k).sum + l[k] := by
 rw [List.take_succ_eq_append_getElem hk, List.sum_append, List.sum_singleton]
theorem vldM_iff {m : List Int} : vldM m = true ↔ m.length ≤ 6 ∧ (∀ e ∈ m, 0 ≤ e) ∧ m.sum ≤ 24 := by unfold vldM; simp
theorem vldM_bad {m : List Int} {k : Nat} (hk : k < m.length) (h : m[k] < 0 ∨ 24 - (m.take k).sum < m[k]) : vldM m = false := by
 apply eq_false_of_ne_true
 rw [vldM_iff]
 rintro ⟨_, h1, h2⟩
 rcases h with h | h
 ·have := h1 m[k] (List.getElem_mem _); omega
 ·have h3 := sum_take_le m (k + 1) h1
  rw [sum_take_succ m k hk] at h3
  omega
theorem degM_ge {m : List Int} : decide (0 ≤ degM m) = vldM m := by
 unfold degM
 cases h : vldM m with
 | true =>
   have := sum_nonneg m (vldM_iff.1 h).2.1
   simp; exact this
 | false => simp
/-! Polynomials: the number of variables, and the terms as a text and exponents. -/
end Go.Mo
end
section
/- Walks: the degree of a monomial, the order of monomials. -/
namespace Go.Proofs.Tg
open Go.RowKit Go.Gr Go.Mo
set_option maxHeartbeats 1000000
set_option maxRecDepth 100000
theorem deg_any (A : Option Addr) (c : Nat) (m : List Int) (w : World) (hA : Ints w A m) (hn : m.length ≤ 1000) :
    Calls Tryz.prog 99 #[.slice A m.length c] w fun e w' => e = .returned (.int .i64 (degM m)) ∧ w = w' := by
  by_cases hl : m.length ≤ 6
  ·have hd : decide ((6 : Int) < (m.length : Int)) = false := by simp; omega
   go_enter Tryz.func99, Tryz.ntmps99
   go_wp2
   go_loop [3, 11] (fun s i => ∃ k : Nat, k ≤ m.length ∧ i = .int .i64 k ∧ ∃ z : Int, s = .int .i64 z ∧ 0 ≤ z ∧ z ≤ 24 ∧ Hid (z = (m.take k).sum ∧ ∀ e ∈ m.take k, 0 ≤ e)) (fun _ i => m.length - (intOf i).toNat)
   case atStart => exact ⟨0, Nat.zero_le _, rfl, 0, rfl, by omega, by omega, Lib.hid ⟨rfl, by simp⟩⟩
   case round =>
    obtain ⟨k, hk, rfl, z, rfl, hz0, hz1, HZ⟩ := hrel
    by_cases hlt : k < m.length
    ·obtain ⟨ad, rfl, hc⟩ := Ints.at hA hlt
     have HS : Hid ((m.take (k + 1)).sum = z + m[k]) := Lib.hid (by rw [sum_take_succ m k hlt, ← HZ.out.1])
     have HB : Hid (m[k] < 0 ∨ 24 - z < m[k] → vldM m = false) := Lib.hid (fun h => vldM_bad hlt (by rw [← HZ.out.1]; exact h))
     have HT : Hid (m.take (k + 1) = m.take k ++ [m[k]]) := Lib.hid (List.take_succ_eq_append_getElem hlt)
     clear hA
     generalize m[k] = x at hc HS HB HT
     by_cases h1 : x < 0
     ·have b1 : decide (x < 0) = true := by simpa using h1
      have HF : Hid (degM m = -1) := Lib.hid (by unfold degM; rw [HB.out (.inl h1)]; rfl)
      go_wp2
      go_ret
      exact ⟨by rw [HF.out]; rfl, rfl⟩
     ·have b1 : decide (x < 0) = false := by simpa using h1
      by_cases h2 : 24 - z < x
      ·have b2 : decide (24 - z < x) = true := by simpa using h2
       have HF : Hid (degM m = -1) := Lib.hid (by unfold degM; rw [HB.out (.inr h2)]; rfl)
       go_wp2
       go_ret
       exact ⟨by rw [HF.out]; rfl, rfl⟩
      ·have b2 : decide (24 - z < x) = false := by simpa using h2
       go_wp2
       go_round
       case rel =>
        refine ⟨k + 1, by omega, by go_num, z + x, rfl, by omega, by omega, Lib.hid ⟨HS.out.symm, fun e he => ?_⟩⟩
        rw [HT.out] at he
        rcases List.mem_append.1 he with he | he
        ·exact HZ.out.2 e he
        ·simp at he; omega
       case measure => simp [intOf]; omega
    ·obtain rfl : k = m.length := by omega
     have HF : Hid (degM m = z) := Lib.hid (by
      have h := HZ.out
      rw [List.take_length] at h
      unfold degM
      rw [if_pos (vldM_iff.2 ⟨hl, h.2, by omega⟩), h.1])
     go_wp2
     go_ret
     exact ⟨by rw [HF.out]; rfl, rfl⟩
  ·have hd : decide ((6 : Int) < (m.length : Int)) = true := by simp; omega
   have HF : Hid (degM m = -1) := Lib.hid (by
    unfold degM
    rw [if_neg (by rw [vldM_iff]; exact fun h => hl h.1)])
   go_enter Tryz.func99, Tryz.ntmps99
   go_wp2
   go_ret
   exact ⟨by rw [HF.out]; rfl, rfl⟩
theorem valid_any (A : Option Addr) (c : Nat) (m : List Int) (w : World) (hA : Ints w A m) (hn : m.length ≤ 1000) :
    Calls Tryz.prog 78 #[.slice A m.length c] w fun e w' => e = .returned (.bool (vldM m)) ∧ w = w' := by
  have HD : Hid (decide (0 ≤ degM m) = vldM m) := Lib.hid degM_ge
  have HC := Lib.hid (deg_any A c m w hA hn)
  generalize degM m = z at *
  go_enter Tryz.func78, Tryz.ntmps78
  go_wp2_with (go_at_call 99; refine HC.out.mono ?_; rintro e w' ⟨rfl, rfl⟩)
  go_ret
  exact ⟨by rw [← HD.out]; rfl, rfl⟩
end Go.Proofs.Tg
end
section
/- Walks: characters. -/
namespace Go.Proofs.Tg
open Go.RowKit Go.Gr Go Go.Mo
set_option maxHeartbeats 2000000
set_option maxRecDepth 100000
theorem fill_zero (L : List Int) (k n : Nat) (hn : L.length = n) (hk : k < n) (h : L[k] = 0) : L.take k ++ List.replicate (n - k) 0 = L.take (k + 1) ++ List.replicate (n - (k + 1)) 0 := by
 rw [List.take_succ_eq_append_getElem (by omega), h, show n - k = (n - (k + 1)) + 1 by omega, List.replicate_succ]; simp
theorem fill_set (L : List Int) (k n : Nat) (x : Int) (hn : L.length = n) (hk : k < n) (h : L[k] = x) : (L.take k ++ List.replicate (n - k) 0).set k x = L.take (k + 1) ++ List.replicate (n - (k + 1)) 0 := by
 have hl : (L.take k).length = k := by rw [List.length_take]; omega
 rw [List.take_succ_eq_append_getElem (by omega), h, show n - k = (n - (k + 1)) + 1 by omega, List.replicate_succ, List.set_append_right _ _ (by omega), hl, Nat.sub_self, List.set_cons_zero]; simp
end Go.Proofs.Tg
end
section
/- Walks: cutting a sign and digits off a text. -/
namespace Go.Proofs.Tg
open Go.RowKit Go.Qn
set_option maxHeartbeats 400000
def bs (l : List UInt8) : ByteArray := ⟨l.toArray⟩
theorem bs_self (s : ByteArray) : bs s.data.toList = s := by cases s; rfl
theorem bs_data (l : List UInt8) : (bs l).data.toList = l := rfl
theorem bs_size (l : List UInt8) : (bs l).size = l.length := by show l.toArray.size = _; simp
theorem ext_bs (s : ByteArray) (a b : Nat) : s.extract a b = bs ((s.data.toList.drop a).take (b - a)) := by rw [← bs_self (s.extract a b), Lib.extract_data]
theorem ext_end (s : ByteArray) (a : Nat) : s.extract a s.size = bs (s.data.toList.drop a) := by rw [← bs_self (s.extract a s.size), Lib.extract_to_end]
theorem len_size (s : ByteArray) : s.data.toList.length = s.size := by rw [Array.length_toList]; rfl
theorem hasp_any (s : ByteArray) (w : World) (hs : s.size ≤ 64) :
    Calls Tryz.prog 166 #[.string s, .string ⟨#[45]⟩] w fun e w' => e = .returned (.bool (decide (s.data.toList.head? = some 45))) ∧ w = w' := by
  go_enter Tryz.func166, Tryz.ntmps166
  go_wp2
  ·have h1 : 1 ≤ (s.size : Int) := by assumption
   go_ret
   refine ⟨?_, rfl⟩
   show Ending.returned (.bool ((s.extract 0 1).toList == [45])) = _
   rw [Lib.toList_data, Lib.extract_data]
   have hl := len_size s
   congr 2
   cases hd : s.data.toList with
   | nil => rw [hd] at hl; simp at hl; omega
   | cons c t => by_cases hc : c = 45 <;> simp [hc]
  ·have h1 : (s.size : Int) < 1 := by assumption
   go_ret
   refine ⟨?_, rfl⟩
   have hl := len_size s
   have : s.data.toList = [] := List.eq_nil_of_length_eq_zero (by omega)
   rw [this]; rfl
theorem hasp_t (s : ByteArray) (w : World) (hs : s.size ≤ 64) (h : s.data.toList.head? = some 45) :
    Calls Tryz.prog 166 #[.string s, .string ⟨#[45]⟩] w fun e w' => e = .returned (.bool true) ∧ w = w' :=
  (hasp_any s w hs).mono fun e w' ⟨h1, h2⟩ => ⟨by rw [h1, decide_eq_true h], h2⟩
theorem hasp_f (s : ByteArray) (w : World) (hs : s.size ≤ 64) (h : s.data.toList.head? ≠ some 45) :
    Calls Tryz.prog 166 #[.string s, .string ⟨#[45]⟩] w fun e w' => e = .returned (.bool false) ∧ w = w' :=
  (hasp_any s w hs).mono fun e w' ⟨h1, h2⟩ => ⟨by rw [h1, decide_eq_false h], h2⟩
theorem cutl_any (s : ByteArray) (w : World) (hs : s.size ≤ 64) :
    Calls Tryz.prog 151 #[.string s, .string ⟨#[45]⟩] w fun e w' => e = .returned (.tuple #[.string (bs (cut s.data.toList).2), .bool (cut s.data.toList).1]) ∧ w = w' := by
  by_cases h : s.data.toList.head? = some 45
  ·have h1 : 1 ≤ (s.size : Int) := by
    have hl := len_size s
    cases hd : s.data.toList with
    | nil => rw [hd] at h; cases h
    | cons c t => rw [hd] at hl; simp at hl; omega
   have H := Lib.hid h
   clear h
   go_enter Tryz.func151, Tryz.ntmps151
   go_wp2_with (go_at_call 166; refine (hasp_t _ _ hs H.out).mono ?_; rintro e w' ⟨rfl, rfl⟩)
   go_ret2
   refine ⟨?_, rfl⟩
   have H := H.out
   show Ending.returned (.tuple #[.string (s.extract 1 s.size), .bool true]) = _
   rw [ext_end]
   unfold cut
   rw [if_pos H]; simp
  ·have H := Lib.hid h
   clear h
   go_enter Tryz.func151, Tryz.ntmps151
   go_wp2_with (go_at_call 166; refine (hasp_f _ _ hs H.out).mono ?_; rintro e w' ⟨rfl, rfl⟩)
   go_ret2
   refine ⟨?_, rfl⟩
   have H := H.out
   show Ending.returned (.tuple #[.string s, .bool false]) = _
   unfold cut
   rw [if_neg H, bs_self]
theorem cutp_any (s : ByteArray) (w : World) (hs : s.size ≤ 64) :
    Calls Tryz.prog 140 #[.string s, .string ⟨#[45]⟩] w fun e w' => e = .returned (.tuple #[.string (bs (cut s.data.toList).2), .bool (cut s.data.toList).1]) ∧ w = w' := by
  go_enter Tryz.func140, Tryz.ntmps140
  go_wp2_with (go_at_call 151; refine (cutl_any _ _ hs).mono ?_; rintro e w' ⟨rfl, rfl⟩)
  go_ret2
  exact ⟨rfl, rfl⟩
theorem tw_at {p : UInt8 → Bool} (l : List UInt8) (k : Nat) (h : ∀ c ∈ l.take k, p c = true) (hx : l.length ≤ k ∨ ∃ h : k < l.length, p l[k] = false) : l.takeWhile p = l.take k ∧ l.dropWhile p = l.drop k := by
 have := tw_app (p := p) (l.take k) (l.drop k) h (by
  rcases hx with hx | ⟨hk, hx⟩
  ·left; rw [List.drop_eq_nil_iff]; exact hx
  ·right; exact ⟨l[k], l.drop (k + 1), by rw [List.drop_eq_getElem_cons hk], hx⟩)
 rwa [List.take_append_drop] at this
theorem isD_int {c : UInt8} (h : isD c = true) : (48 : Int) ≤ (c.toNat : Int) ∧ (c.toNat : Int) ≤ 57 := by rw [isD_iff] at h; omega
set_option maxHeartbeats 1000000 in
theorem digits_any (s : ByteArray) (w : World) (hs : s.size ≤ 64) :
    Calls Tryz.prog 141 #[.string s] w fun e w' => e = .returned (.tuple #[.string (bs (s.data.toList.takeWhile isD)), .string (bs (s.data.toList.dropWhile isD))]) ∧ Below w.heap.size w w' := by
  go_enter Tryz.func141, Tryz.ntmps141
  go_wp2
  go_loop [4] (fun i => ∃ k : Nat, k ≤ s.size ∧ i = .int .i64 k ∧ Hid (∀ c ∈ s.data.toList.take k, isD c = true)) (fun i => s.size - (intOf i).toNat)
  case atStart => exact ⟨0, Nat.zero_le _, rfl, Lib.hid (by simp)⟩
  case round =>
   obtain ⟨k, hk, rfl, HD⟩ := hrel
   have hl := Lib.hid (len_size s)
   by_cases hlt : k < s.size
   ·by_cases hc : isD s[k] = true
    ·obtain ⟨c1, c2⟩ := isD_int hc
     have d1 : decide ((48 : Int) ≤ (s[k].toNat : Int)) = true := by simpa using c1
     have d2 : decide ((s[k].toNat : Int) ≤ 57) = true := by simpa using c2
     have HD' : Hid (∀ c ∈ s.data.toList.take (k + 1), isD c = true) := Lib.hid (by
      intro c hc'
      rw [List.take_succ_eq_append_getElem (by rw [hl.out]; exact hlt)] at hc'
      rcases List.mem_append.1 hc' with h | h
      ·exact HD.out c h
      ·simp only [List.mem_cons, List.not_mem_nil, or_false] at h
       rw [h]; exact hc)
     clear hc
     go_wp2
     go_round
     case rel => exact ⟨k + 1, by omega, by go_num, HD'⟩
     case measure => simp [intOf]; omega
    ·have hx : (s[k].toNat : Int) < 48 ∨ 57 < (s[k].toNat : Int) := by
      rw [isD_iff] at hc; omega
     have HX : Hid (s.data.toList.takeWhile isD = s.data.toList.take k ∧ s.data.toList.dropWhile isD = s.data.toList.drop k) := Lib.hid (tw_at _ k HD.out (.inr ⟨by rw [hl.out]; exact hlt, eq_false_of_ne_true hc⟩))
     clear hc
     have q1 : (k : Int) ≤ (s.size : Int) := by omega
     have q2 : (0 : Int) ≤ (k : Int) := by omega
     have q3 : ((k : Int)).toNat = k := by omega
     rcases hx with hx | hx
     ·have d1 : decide ((48 : Int) ≤ (s[k].toNat : Int)) = false := by simp; omega
      go_wp2
      go_quiet (fail)
      go_wp2
      go_ret2
      refine ⟨?_, below_drewN (Below.refl _ _) _⟩
      show Ending.returned (.tuple #[.string (s.extract 0 k), .string (s.extract k s.size)]) = _
      rw [ext_bs, ext_end, HX.out.1, HX.out.2]; simp
     ·have d1 : decide ((48 : Int) ≤ (s[k].toNat : Int)) = true := by simp; omega
      have d2 : decide ((s[k].toNat : Int) ≤ 57) = false := by simp; omega
      go_wp2
      go_quiet (fail)
      go_wp2
      go_ret2
      refine ⟨?_, below_drewN (Below.refl _ _) _⟩
      show Ending.returned (.tuple #[.string (s.extract 0 k), .string (s.extract k s.size)]) = _
      rw [ext_bs, ext_end, HX.out.1, HX.out.2]; simp
   ·obtain rfl : k = s.size := by omega
    have HX : Hid (s.data.toList.takeWhile isD = s.data.toList.take s.size ∧ s.data.toList.dropWhile isD = s.data.toList.drop s.size) := Lib.hid (tw_at _ s.size HD.out (.inl (by rw [hl.out]; omega)))
    have q2 : (0 : Int) ≤ (s.size : Int) := by omega
    have q3 : ((s.size : Int)).toNat = s.size := by omega
    have d0 : decide (s.size < s.size) = false := by simp
    go_wp2
    go_quiet (fail)
    go_wp2
    go_ret2
    refine ⟨?_, below_drewN (Below.refl _ _) _⟩
    show Ending.returned (.tuple #[.string s, .string ByteArray.empty]) = _
    have h1 : s.data.toList.take s.size = s.data.toList := List.take_of_length_le (by rw [hl.out]; omega)
    have h2 : s.data.toList.drop s.size = [] := List.drop_eq_nil_iff.2 (by rw [hl.out]; omega)
    rw [HX.out.1, HX.out.2, h1, h2, bs_self]; rfl
end Go.Proofs.Tg
end
