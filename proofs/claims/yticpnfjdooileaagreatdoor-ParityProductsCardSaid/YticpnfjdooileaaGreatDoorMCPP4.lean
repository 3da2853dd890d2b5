/- Parts of the proof: E2, WB1, WM1. -/
import Derived.Laws.ShiftsVarLaws
import Derived.Test.YticpnfjdooileaaGreatDoorMCPP0
import Derived.Test.YticpnfjdooileaaGreatDoorMCPP1
import Derived.Test.YticpnfjdooileaaGreatDoorMCPP2
import Derived.Test.YticpnfjdooileaaGreatDoorMCPP3
section
/- Parities: the inner product modulo 2 of a list of exponents and a sign vector, by sums and by bits. Plain numbers. -/
namespace Go.Ev
open Go.Gr
def pr (row : List Int) (x : Nat) : Nat → Nat
  | 0 => 0
  | i + 1 => pr row x i + (if x.testBit i = true then (row.getD i 0).toNat else 0)
theorem pr_xor (row : List Int) (x y : Nat) : ∀ n, pr row (x ^^^ y) n % 2 = (pr row x n + pr row y n) % 2
  | 0 => rfl
  | n + 1 => by
    have ih := pr_xor row x y n
    simp only [pr, Nat.testBit_xor]
    cases x.testBit n <;> cases y.testBit n <;> simp <;> omega
/-- The sign vectors of n variables that are orthogonal to all rows. -/
def V (rows : List (List Int)) (n x : Nat) : Prop := x < 2 ^ n ∧ ∀ row ∈ rows, pr row x n % 2 = 0
theorem V_space (rows : List (List Int)) (n : Nat) : Space (V rows n) n :=
  ⟨fun _ h => h.1, fun x y hx hy => ⟨Nat.xor_lt_two_pow hx.1 hy.1, fun row hr => by
    have := pr_xor row x y n
    have h1 := hx.2 row hr
    have h2 := hy.2 row hr
    omega⟩⟩
/-- A list of numbers as bits: bit i is the parity of number i. -/
def pk (l : List Int) : Nat → Nat
  | 0 => 0
  | k + 1 => pk l k ^^^ (((l.getD k 0).toNat % 2) <<< k)
theorem pk_bit (l : List Int) (b : Nat) : ∀ k, (pk l k).testBit b = (decide (b < k) && decide ((l.getD b 0).toNat % 2 = 1))
  | 0 => by simp [pk]
  | k + 1 => by
    rw [pk, Nat.testBit_xor, pk_bit l b k, Nat.testBit_shiftLeft]
    have h01 : (l.getD k 0).toNat % 2 = 0 ∨ (l.getD k 0).toNat % 2 = 1 := by omega
    by_cases e : b = k
    · subst e
      rcases h01 with h | h <;> rw [h] <;> simp
    · by_cases hlt : b < k
      · simp [hlt, show b < k + 1 by omega, show ¬ k ≤ b by omega]
      · have : k ≤ b := by omega
        simp only [hlt, show ¬ b < k + 1 by omega, decide_false, Bool.false_and, Bool.false_xor, ge_iff_le, this, decide_true, Bool.true_and]
        rcases h01 with h | h
        · rw [h]; simp
        · rw [h]
          exact Nat.testBit_lt_two_pow (i := b - k) (x := 1) (Nat.lt_of_lt_of_le (show 1 < 2 ^ 1 by decide) (Nat.pow_le_pow_right (by omega) (by omega)))
theorem pk_lt (l : List Int) (k : Nat) : pk l k < 2 ^ k := by
  apply Nat.lt_pow_two_of_testBit
  intro i hi
  rw [pk_bit]; simp; omega
theorem cnt_and (l : List Int) (x k : Nat) : ∀ n, n ≤ k → ((List.range n).filter (x &&& pk l k).testBit).length % 2 = pr l x n % 2
  | 0, _ => rfl
  | n + 1, h => by
    have ih := cnt_and l x k n (by omega)
    rw [List.range_succ, List.filter_append, List.length_append, pr]
    simp only [List.filter_cons, List.filter_nil, Nat.testBit_and, pk_bit, show n < k by omega, decide_true, Bool.true_and]
    cases x.testBit n
    · simp; omega
    · by_cases h2 : (l.getD n 0).toNat % 2 = 1
      · simp only [h2, decide_true, Bool.and_true, if_true, List.length_singleton]; omega
      · simp only [h2, decide_false, Bool.and_false, Bool.false_eq_true, if_false, if_true, List.length_nil]; omega
theorem cnt_high (z k : Nat) (hz : z < 2 ^ k) : ∀ m, ((List.range (k + m)).filter z.testBit).length = ((List.range k).filter z.testBit).length
  | 0 => rfl
  | m + 1 => by
    have : z.testBit (k + m) = false := Nat.testBit_lt_two_pow (Nat.lt_of_lt_of_le hz (Nat.pow_le_pow_right (by omega) (by omega)))
    rw [show k + (m + 1) = k + m + 1 from rfl, List.range_succ, List.filter_append, List.length_append, cnt_high z k hz m]
    simp [this]
/-- The number of common bits of a sign vector and the packed exponents is odd exactly if the inner product is. -/
theorem size_and (l : List Int) (x k : Nat) (hk : k ≤ 64) : size (x &&& pk l k) % 2 = pr l x k % 2 := by
  have hz : x &&& pk l k < 2 ^ k := Nat.lt_of_le_of_lt Nat.and_le_right (pk_lt l k)
  have := cnt_high _ k hz (64 - k)
  rw [show k + (64 - k) = 64 by omega] at this
  unfold size verts
  rw [this]
  exact cnt_and l x k k (Nat.le_refl _)
/-- The inner product of two lists. -/
def dotN (a s : List Int) : Nat → Int
  | 0 => 0
  | i + 1 => dotN a s i + a.getD i 0 * s.getD i 0
/-- A list of zeros and ones. -/
def Bit01 (s : List Int) : Prop := ∀ x ∈ s, x = 0 ∨ x = 1
theorem getD_mem (s : List Int) (i : Nat) (h : i < s.length) : s.getD i 0 ∈ s := by
  rw [List.getD_eq_getElem?_getD, List.getElem?_eq_getElem h, Option.getD_some]; exact List.getElem_mem h
theorem dotN_pr (a s : List Int) (k : Nat) (hs : Bit01 s) (hk : k = s.length) (ha : ∀ x ∈ a, 0 ≤ x) : ∀ n, n ≤ k → dotN a s n = (pr a (pk s k) n : Nat)
  | 0, _ => rfl
  | n + 1, h => by
    have h0 : 0 ≤ a.getD n 0 := by
      rcases Nat.lt_or_ge n a.length with h1 | h1
      · exact ha _ (getD_mem a n h1)
      · rw [List.getD_eq_getElem?_getD, List.getElem?_eq_none h1]; simp
    rw [dotN, pr, dotN_pr a s k hs hk ha n (by omega), pk_bit]
    simp only [show n < k by omega, decide_true, Bool.true_and]
    generalize a.getD n 0 = x at *
    rcases hs _ (getD_mem s n (by omega)) with e | e <;> rw [e] <;> simp
    omega
/-- A sign vector as a list. -/
def unp (x n : Nat) : List Int := (List.range n).map fun i => if x.testBit i = true then 1 else 0
theorem unp_len (x n : Nat) : (unp x n).length = n := by simp [unp]
theorem unp_getD (x n i : Nat) (h : i < n) : (unp x n).getD i 0 = if x.testBit i = true then 1 else 0 := by
  unfold unp
  rw [List.getD_eq_getElem?_getD, List.getElem?_map, List.getElem?_range h]; rfl
theorem unp_bit (x n : Nat) : Bit01 (unp x n) := by
  intro v hv
  obtain ⟨i, _, rfl⟩ := List.mem_map.1 hv
  split <;> simp
theorem pk_unp {x n : Nat} (hx : x < 2 ^ n) : pk (unp x n) n = x := by
  refine Nat.eq_of_testBit_eq fun b => ?_
  rw [pk_bit]
  by_cases hb : b < n
  · rw [unp_getD x n b hb]
    cases x.testBit b <;> simp [hb]
  · simp [hb]
    exact (Nat.testBit_lt_two_pow (Nat.lt_of_lt_of_le hx (Nat.pow_le_pow_right (n := 2) (by omega) (by omega : n ≤ b))))
end Go.Ev
end
section
/- Walks: sign vectors as bits. -/
namespace Go.Proofs.Tg
open Go.RowKit Go.Gr
set_option maxHeartbeats 1000000
set_option maxRecDepth 100000
theorem i64_and_n (a b : Nat) (ha : a < 9223372036854775808) (hb : b < 9223372036854775808) : bits BinOp.and IntKind.i64 (a : Int) (b : Int) = ((a &&& b : Nat) : Int) := by
  have hx : a &&& b < 2 ^ 63 := Nat.and_lt_two_pow _ (by omega)
  show IntKind.i64.wrap ((BitVec.ofInt 64 (a : Int) &&& BitVec.ofInt 64 (b : Int)).toNat : Int) = _
  rw [BitVec.toNat_and, ofInt_u64 a (by omega), ofInt_u64 b (by omega), IntKind.wrap_i64]
  omega
theorem i64_xor_n (a b : Nat) (ha : a < 9223372036854775808) (hb : b < 9223372036854775808) : bits BinOp.xor IntKind.i64 (a : Int) (b : Int) = ((a ^^^ b : Nat) : Int) := by
  have hx : a ^^^ b < 2 ^ 63 := Nat.xor_lt_two_pow (by omega) (by omega)
  show IntKind.i64.wrap ((BitVec.ofInt 64 (a : Int) ^^^ BitVec.ofInt 64 (b : Int)).toNat : Int) = _
  rw [BitVec.toNat_xor, ofInt_u64 a (by omega), ofInt_u64 b (by omega), IntKind.wrap_i64]
  omega
theorem pow_62 {k : Nat} (hk : k < 62) : 2 ^ k ≤ 2305843009213693952 := by
  have : 2 ^ k ≤ 2 ^ 61 := Nat.pow_le_pow_right (by omega) (by omega)
  exact Nat.le_trans this (by decide)
theorem wrap64_nat (n : Nat) (h : n < 9223372036854775808) : wrap64 (n : Int) = (n : Int) := by unfold wrap64; omega
theorem pack_step (q k : Nat) (x : Int) (hx : 0 ≤ x) (hx2 : x < 9223372036854775808) (hk : k < 62) (hq : q < 2 ^ k) :
    bits BinOp.xor IntKind.i64 (q : Int) (wrap64 (bits BinOp.and IntKind.i64 x 1 * 2 ^ k)) = ((q ^^^ ((x.toNat % 2) <<< k) : Nat) : Int) := by
  obtain ⟨X, rfl⟩ := Int.eq_ofNat_of_zero_le hx
  have hp := pow_62 hk
  have e1 : bits BinOp.and IntKind.i64 (X : Int) 1 = ((X % 2 : Nat) : Int) := by
    rw [show (1 : Int) = ((1 : Nat) : Int) from rfl, i64_and_n X 1 (by omega) (by omega), Nat.and_one_is_mod]
  have h2 : X % 2 * 2 ^ k ≤ 2 ^ k := by
    have : X % 2 ≤ 1 := by omega
    calc X % 2 * 2 ^ k ≤ 1 * 2 ^ k := Nat.mul_le_mul_right _ this
      _ = 2 ^ k := Nat.one_mul _
  have e2 : ((X % 2 : Nat) : Int) * 2 ^ k = ((X % 2 * 2 ^ k : Nat) : Int) := by simp
  rw [e1, e2, wrap64_nat _ (by omega), i64_xor_n _ _ (by omega) (by omega), Int.toNat_natCast, Nat.shiftLeft_eq]
theorem pack_any (A : Option Addr) (c : Nat) (l : List Int) (w : World) (hA : Ints w A l) (hn : l.length ≤ 62) (h0 : ∀ x ∈ l, 0 ≤ x ∧ x < 9223372036854775808) :
    Calls Tryz.prog 26 #[.slice A l.length c] w fun e w' => e = .returned (.int .i64 (Ev.pk l l.length : Nat)) ∧ w = w' := by
  have H0 := Lib.hid h0
  clear h0
  go_enter Tryz.func26, Tryz.ntmps26
  go_wp2
  go_loop [3, 8] (fun p i => ∃ k : Nat, k ≤ l.length ∧ i = .int .i64 k ∧ ∃ q : Nat, p = .int .i64 q ∧ q < 2 ^ k ∧ Hid (q = Ev.pk l k)) (fun _ i => l.length - (intOf i).toNat)
  case atStart => exact ⟨0, Nat.zero_le _, rfl, 0, rfl, by decide, Lib.hid rfl⟩
  case round =>
    obtain ⟨k, hk, rfl, q, rfl, hq, HQ⟩ := hrel
    by_cases hlt : k < l.length
    · obtain ⟨ad, rfl, hc⟩ := Ints.at hA hlt
      have hx := H0.out l[k] (List.getElem_mem _)
      have HG : Hid (l.getD k 0 = l[k]) := Lib.hid (by simp [hlt])
      clear hA
      generalize l[k] = x at *
      obtain ⟨hx1, hx2⟩ := hx
      go_wp2
      go_round
      case rel =>
        refine ⟨k + 1, by omega, by go_num, q ^^^ ((x.toNat % 2) <<< k), by rw [pack_step q k x hx1 hx2 (by omega) hq], ?_, Lib.hid ?_⟩
        · have := Ev.pk_lt l (k + 1)
          rw [Ev.pk, HG.out, ← HQ.out] at this
          exact this
        · rw [Ev.pk, HG.out, ← HQ.out]
      case measure => simp [intOf]; omega
    · obtain rfl : k = l.length := by omega
      go_wp2
      go_ret
      exact ⟨by rw [HQ.out]; rfl, rfl⟩
theorem ones_w (s : Nat) (w : World) (hs : s < 18446744073709551616) :
    Calls Tryz.prog 47 #[.int .u64 s] w fun e w' => e = .returned (.int .i64 (size s : Nat)) ∧ w = w' := by
  go_enter Tryz.func47, Tryz.ntmps47
  go_wp2_with (go_at_call 58; refine (ones_any s _ hs).mono ?_; rintro e w' ⟨rfl, rfl⟩)
  go_ret
  exact ⟨rfl, rfl⟩
theorem odd_any (s e : Nat) (w : World) (hs : s < 9223372036854775808) (he : e < 9223372036854775808) :
    Calls Tryz.prog 27 #[.int .i64 s, .int .i64 e] w fun r w' => r = .returned (.bool (decide (size (s &&& e) % 2 = 1))) ∧ w = w' := by
  have hx : s &&& e < 9223372036854775808 := Nat.lt_of_le_of_lt Nat.and_le_left hs
  have e1 := i64_and_n s e hs he
  have e2 := wrap_nat (s &&& e) (by omega)
  have H := Lib.hid (ones_w (s &&& e) w (by omega))
  have hl := size_le (s &&& e)
  go_enter Tryz.func27, Tryz.ntmps27
  go_wp2_with (go_at_call 47; refine H.out.mono ?_; rintro e w' ⟨rfl, rfl⟩)
  go_ret
  refine ⟨?_, rfl⟩
  show Ending.returned (.bool (bits BinOp.and IntKind.i64 ((size (s &&& e) : Nat) : Int) 1 == 1)) = _
  rw [show (1 : Int) = ((1 : Nat) : Int) from rfl, i64_and_n _ 1 (by omega) (by omega), Nat.and_one_is_mod]
  congr 2
  by_cases h : size (s &&& e) % 2 = 1
  · rw [h]; rfl
  · rw [decide_eq_false h]; simp; omega
theorem int_info : (Tryz.prog.info? 3).map (fun i => (i.zero, i.size, i.bytes)) = some (some (.int .i64 0), 1, 8) := by kernel_rfl
theorem make_ints (l n : Nat) (hl : l ≤ n) (hn : n ≤ 1000000) (w : World) : (Instr.makeSlice 33 (.int .i64 (l : Int)) (.int .i64 (n : Int))).run Tryz.prog w = .ok (.slice (some ⟨w.heap.size, 0, none⟩) l n) (w.alloc (.cells (madeCells #[.int .i64 0] n) 3)) := by
  obtain ⟨i0, hi, hz0, hz1, hz2⟩ := info_parts int_info
  have hr := run_make (P := Tryz.prog) w 33 3 i0 (.int .i64 0) Tryz.underlying33 hi hz0 .i64 .i64 l n (by omega) (by omega) (by rw [hz2]; omega) (by omega)
  rw [hz1, Nat.mul_one, Int.toNat_natCast, Int.toNat_natCast] at hr
  exact hr
theorem shr_bit (x i : Nat) (hx : x < 9223372036854775808) : bits BinOp.and IntKind.i64 ((x : Int) / 2 ^ i) 1 = if x.testBit i = true then 1 else 0 := by
  have e : (x : Int) / 2 ^ i = ((x / 2 ^ i : Nat) : Int) := by simp
  have hl : x / 2 ^ i < 9223372036854775808 := Nat.lt_of_le_of_lt (Nat.div_le_self _ _) hx
  rw [e, show (1 : Int) = ((1 : Nat) : Int) from rfl, i64_and_n _ 1 hl (by omega), Nat.and_one_is_mod, Nat.testBit_eq_decide_div_mod_eq]
  by_cases h : x / 2 ^ i % 2 = 1
  · rw [h]; simp
  · have : x / 2 ^ i % 2 = 0 := by omega
    rw [this]; simp
/-- The value that a call returns is a new block of numbers. -/
def RetNew (l : List Int) (w : World) (e : Ending) (w' : World) : Prop :=
  e = .returned (.slice (some ⟨w.heap.size, 0, none⟩) l.length l.length) ∧ Blk w' w.heap.size 3 (iarr l) ∧ Below w.heap.size w w'
theorem unp_set (x n k : Nat) (hk : k < n) : (Ev.unp x k ++ List.replicate (n - k) 0).set k (if x.testBit k = true then 1 else 0) = Ev.unp x (k + 1) ++ List.replicate (n - (k + 1)) 0 := by
  obtain ⟨m, hm⟩ : ∃ m, n - k = m + 1 := ⟨n - k - 1, by omega⟩
  rw [hm, show n - (k + 1) = m by omega]
  have hl : (Ev.unp x k).length = k := Ev.unp_len x k
  have e : Ev.unp x (k + 1) = Ev.unp x k ++ [if x.testBit k = true then 1 else 0] := by
    unfold Ev.unp; rw [List.range_succ, List.map_append]; rfl
  rw [e, List.replicate_succ, List.set_append_right _ _ (by rw [hl]; exact Nat.le_refl _), hl, Nat.sub_self, List.set_cons_zero]; simp
theorem unpack_any (x n : Nat) (w : World) (hx : x < 9223372036854775808) (hn : n ≤ 62) :
    Calls Tryz.prog 29 #[.int .i64 x, .int .i64 n] w (RetNew (Ev.unp x n) w) := by
  have hmk := fun W => make_ints n n (Nat.le_refl _) (by omega) W
  go_enter Tryz.func29, Tryz.ntmps29
  go_wp2
  clear hmk
  go_loopw [11] (fun i wr => ∃ k : Nat, k ≤ n ∧ i = .int .i64 k ∧ Blk wr w.heap.size 3 (iarr (Ev.unp x k ++ List.replicate (n - k) 0)) ∧ Below w.heap.size w wr) (fun i _ => n - (intOf i).toNat)
  case atStart =>
    refine ⟨0, Nat.zero_le _, rfl, ?_, (Below.refl _ _).alloc (Nat.le_refl _) _⟩
    have e : iarr (Ev.unp x 0 ++ List.replicate (n - 0) 0) = madeCells #[.int .i64 0] n := (iarr_made n).symm
    rw [e]
    exact Blk.new w 3 _
  case round =>
    obtain ⟨k, hk, rfl, B, hb⟩ := hrel
    have hlen : (Ev.unp x k ++ List.replicate (n - k) 0).length = n := by rw [List.length_append, Ev.unp_len, List.length_replicate]; omega
    by_cases hlt : k < n
    · have HB := Lib.hid B
      have c0 := B.cell k
      have f0 := B.frozen k
      rw [iarr_at _ (by rw [hlen]; exact hlt)] at c0
      generalize (Ev.unp x k ++ List.replicate (n - k) 0)[k]'(by rw [hlen]; exact hlt) = old at c0
      have hs := shr_bit x k hx
      clear B hlen
      go_wp2
      go_roundw
      case rel =>
        refine ⟨k + 1, by omega, by go_num, ?_, hb.setCell (Nat.le_refl _) _⟩
        have := HB.out.set k (.int .i64 (if x.testBit k = true then 1 else 0))
        rw [iarr_set, unp_set x n k hlt] at this
        simpa using this
      case measure => simp [intOf]; omega
    · obtain rfl : k = n := by omega
      go_wp2
      go_ret
      refine ⟨by rw [Ev.unp_len]; rfl, ?_, hb⟩
      simpa using B
def bit01 (l : List Int) : Bool := l.all fun x => x == 0 || x == 1
theorem bit01_iff {l : List Int} : bit01 l = true ↔ Ev.Bit01 l := by unfold bit01 Ev.Bit01; simp
theorem bit01_bad {l : List Int} {x : Int} (hx : x ∈ l) (h0 : ¬ x = 0) (h1 : ¬ x = 1) : bit01 l = false := by
  apply eq_false_of_ne_true
  rw [bit01_iff]
  exact fun h => (h x hx).elim h0 h1
theorem vsign_any (A : Option Addr) (c : Nat) (l : List Int) (w : World) (hA : Ints w A l) (hn : l.length ≤ 1000) :
    Calls Tryz.prog 39 #[.slice A l.length c] w fun e w' => e = .returned (.bool (bit01 l)) ∧ w = w' := by
  go_enter Tryz.func39, Tryz.ntmps39
  go_wp2
  go_loop [7] (fun i => ∃ k : Nat, k ≤ l.length ∧ i = .int .i64 k ∧ Hid (Ev.Bit01 (l.take k))) (fun i => l.length - (intOf i).toNat)
  case atStart => exact ⟨0, Nat.zero_le _, rfl, Lib.hid (by intro x hx; cases hx)⟩
  case round =>
    obtain ⟨k, hk, rfl, HG⟩ := hrel
    by_cases hlt : k < l.length
    · obtain ⟨ad, rfl, hc⟩ := Ints.at hA hlt
      have HT0 : Hid (l.take (k + 1) = l.take k ++ [l[k]]) := Lib.hid (List.take_succ_eq_append_getElem hlt)
      have HM : Hid (l[k] ∈ l) := Lib.hid (List.getElem_mem _)
      clear hA
      generalize l[k] = x at *
      by_cases h0 : x = 0
      · have b0 : (x != 0) = false := by simp [h0]
        have HG2 : Hid (Ev.Bit01 (l.take (k + 1))) := Lib.hid (by
          rw [HT0.out]; intro y hy
          rcases List.mem_append.1 hy with h | h
          · exact HG.out y h
          · simp at h; subst h; exact .inl h0)
        clear h0
        go_wp2
        go_round
        case rel => exact ⟨k + 1, by omega, by go_num, HG2⟩
        case measure => simp [intOf]; omega
      · have b0 : (x != 0) = true := by simp [h0]
        by_cases h1 : x = 1
        · have b1 : (x != 1) = false := by simp [h1]
          have HG2 : Hid (Ev.Bit01 (l.take (k + 1))) := Lib.hid (by
            rw [HT0.out]; intro y hy
            rcases List.mem_append.1 hy with h | h
            · exact HG.out y h
            · simp at h; subst h; exact .inr h1)
          clear h0 h1
          go_wp2
          go_round
          case rel => exact ⟨k + 1, by omega, by go_num, HG2⟩
          case measure => simp [intOf]; omega
        · have b1 : (x != 1) = true := by simp [h1]
          have HF : Hid (bit01 l = false) := Lib.hid (bit01_bad HM.out h0 h1)
          clear h0 h1
          go_wp2
          go_ret
          exact ⟨by rw [HF.out]; rfl, rfl⟩
    · have HF : Hid (bit01 l = true) := Lib.hid (bit01_iff.2 (by have := HG.out; rwa [List.take_of_length_le (by omega)] at this))
      go_wp2
      go_ret
      exact ⟨by rw [HF.out]; rfl, rfl⟩
end Go.Proofs.Tg
end
section
/- Walks: the degree of a monomial, the order of monomials. -/
namespace Go.Proofs.Tg
open Go.RowKit Go.Gr Go.Mo
set_option maxHeartbeats 1000000
set_option maxRecDepth 100000
theorem deg_any (A : Option Addr) (c : Nat) (m : List Int) (w : World) (hA : Ints w A m) (hn : m.length ≤ 1000) :
    Calls Tryz.prog 33 #[.slice A m.length c] w fun e w' => e = .returned (.int .i64 (degM m)) ∧ w = w' := by
  by_cases hl : m.length ≤ 6
  · have hd : decide ((6 : Int) < (m.length : Int)) = false := by simp; omega
    go_enter Tryz.func33, Tryz.ntmps33
    go_wp2
    go_loop [3, 11] (fun s i => ∃ k : Nat, k ≤ m.length ∧ i = .int .i64 k ∧ ∃ z : Int, s = .int .i64 z ∧ 0 ≤ z ∧ z ≤ 24 ∧ Hid (z = (m.take k).sum ∧ ∀ e ∈ m.take k, 0 ≤ e)) (fun _ i => m.length - (intOf i).toNat)
    case atStart => exact ⟨0, Nat.zero_le _, rfl, 0, rfl, by omega, by omega, Lib.hid ⟨rfl, by simp⟩⟩
    case round =>
      obtain ⟨k, hk, rfl, z, rfl, hz0, hz1, HZ⟩ := hrel
      by_cases hlt : k < m.length
      · obtain ⟨ad, rfl, hc⟩ := Ints.at hA hlt
        have HS : Hid ((m.take (k + 1)).sum = z + m[k]) := Lib.hid (by rw [sum_take_succ m k hlt, ← HZ.out.1])
        have HB : Hid (m[k] < 0 ∨ 24 - z < m[k] → vldM m = false) := Lib.hid (fun h => vldM_bad hlt (by rw [← HZ.out.1]; exact h))
        have HT : Hid (m.take (k + 1) = m.take k ++ [m[k]]) := Lib.hid (List.take_succ_eq_append_getElem hlt)
        clear hA
        generalize m[k] = x at hc HS HB HT
        by_cases h1 : x < 0
        · have b1 : decide (x < 0) = true := by simpa using h1
          have HF : Hid (degM m = -1) := Lib.hid (by unfold degM; rw [HB.out (.inl h1)]; rfl)
          go_wp2
          go_ret
          exact ⟨by rw [HF.out]; rfl, rfl⟩
        · have b1 : decide (x < 0) = false := by simpa using h1
          by_cases h2 : 24 - z < x
          · have b2 : decide (24 - z < x) = true := by simpa using h2
            have HF : Hid (degM m = -1) := Lib.hid (by unfold degM; rw [HB.out (.inr h2)]; rfl)
            go_wp2
            go_ret
            exact ⟨by rw [HF.out]; rfl, rfl⟩
          · have b2 : decide (24 - z < x) = false := by simpa using h2
            go_wp2
            go_round
            case rel =>
              refine ⟨k + 1, by omega, by go_num, z + x, rfl, by omega, by omega, Lib.hid ⟨HS.out.symm, fun e he => ?_⟩⟩
              rw [HT.out] at he
              rcases List.mem_append.1 he with he | he
              · exact HZ.out.2 e he
              · simp at he; omega
            case measure => simp [intOf]; omega
      · obtain rfl : k = m.length := by omega
        have HF : Hid (degM m = z) := Lib.hid (by
          have h := HZ.out
          rw [List.take_length] at h
          unfold degM
          rw [if_pos (vldM_iff.2 ⟨hl, h.2, by omega⟩), h.1])
        go_wp2
        go_ret
        exact ⟨by rw [HF.out]; rfl, rfl⟩
  · have hd : decide ((6 : Int) < (m.length : Int)) = true := by simp; omega
    have HF : Hid (degM m = -1) := Lib.hid (by
      unfold degM
      rw [if_neg (by rw [vldM_iff]; exact fun h => hl h.1)])
    go_enter Tryz.func33, Tryz.ntmps33
    go_wp2
    go_ret
    exact ⟨by rw [HF.out]; rfl, rfl⟩
theorem valid_any (A : Option Addr) (c : Nat) (m : List Int) (w : World) (hA : Ints w A m) (hn : m.length ≤ 1000) :
    Calls Tryz.prog 14 #[.slice A m.length c] w fun e w' => e = .returned (.bool (vldM m)) ∧ w = w' := by
  have HD : Hid (decide (0 ≤ degM m) = vldM m) := Lib.hid degM_ge
  have HC := Lib.hid (deg_any A c m w hA hn)
  generalize degM m = z at *
  go_enter Tryz.func14, Tryz.ntmps14
  go_wp2_with (go_at_call 33; refine HC.out.mono ?_; rintro e w' ⟨rfl, rfl⟩)
  go_ret
  exact ⟨by rw [← HD.out]; rfl, rfl⟩
theorem cmpI_ne {x y : Int} (h : ¬ x = y) : cmpI x y = if x < y then -1 else 1 := by
  unfold cmpI
  by_cases h1 : x < y
  · simp [h1]
  · rw [if_neg h1, if_pos (by omega), if_neg h1]
theorem order_any (A B : Option Addr) (c d : Nat) (a b : List Int) (w : World) (hA : Ints w A a) (hB : Ints w B b) (hl : a.length = b.length) (hn : a.length ≤ 64) (ha : low20 a = true) (hb : low20 b = true) :
    Calls Tryz.prog 72 #[.slice A a.length c, .slice B b.length d] w fun e w' => e = .returned (.int .i64 (ord a b)) ∧ Dr w w' := by
  have HL := Lib.hid hl
  have HA := Lib.hid (low20_iff.1 ha)
  have HB := Lib.hid (low20_iff.1 hb)
  have hn2 : b.length ≤ 64 := by omega
  clear hl ha hb
  go_enter Tryz.func72, Tryz.ntmps72
  go_wp2
  go_loop [5, 6, 12] (fun s t i => ∃ k : Nat, k ≤ a.length ∧ i = .int .i64 k ∧ ∃ y z : Int, s = .int .i64 y ∧ t = .int .i64 z ∧ 0 ≤ y ∧ y ≤ 1048576 * 64 ∧ 0 ≤ z ∧ z ≤ 1048576 * 64 ∧ Hid (y = (a.take k).sum ∧ z = (b.take k).sum)) (fun _ _ i => a.length - (intOf i).toNat)
  case atStart => exact ⟨0, Nat.zero_le _, rfl, 0, 0, rfl, rfl, by omega, by omega, by omega, by omega, Lib.hid ⟨rfl, rfl⟩⟩
  case round =>
    obtain ⟨k, hk, rfl, y, z, rfl, rfl, hy0, hy1, hz0, hz1, HZ⟩ := hrel
    by_cases hlt : k < a.length
    · have hlt2 : k < b.length := by have := HL.out; omega
      obtain ⟨ad, rfl, hc1⟩ := Ints.at hA hlt
      obtain ⟨bd, rfl, hc2⟩ := Ints.at hB hlt2
      have HS1 : Hid ((a.take (k + 1)).sum = y + a[k]) := Lib.hid (by rw [sum_take_succ a k hlt, ← HZ.out.1])
      have HS2 : Hid ((b.take (k + 1)).sum = z + b[k]) := Lib.hid (by rw [sum_take_succ b k hlt2, ← HZ.out.2])
      have hb1 := HA.out a[k] (List.getElem_mem _)
      have hb2 := HB.out b[k] (List.getElem_mem _)
      have hs1 := sum_bound a (k + 1) HA.out
      have hs2 := sum_bound b (k + 1) HB.out
      rw [HS1.out] at hs1
      rw [HS2.out] at hs2
      have hl1 : (a.take (k + 1)).length ≤ 64 := Nat.le_trans (List.length_take_le' _ _) hn
      have hl2 : (b.take (k + 1)).length ≤ 64 := Nat.le_trans (List.length_take_le' _ _) hn2
      obtain ⟨p1, p2⟩ := hb1
      obtain ⟨p3, p4⟩ := hb2
      have r1 : y + a[k] ≤ 1048576 * 64 := by omega
      have r2 : z + b[k] ≤ 1048576 * 64 := by omega
      clear hs1 hs2 hl1 hl2
      generalize a[k] = p at *
      generalize b[k] = q at *
      go_wp2
      go_round
      case rel => exact ⟨k + 1, by omega, by go_num, y + p, z + q, rfl, rfl, by omega, by omega, by omega, by omega, Lib.hid ⟨HS1.out.symm, HS2.out.symm⟩⟩
      case measure => simp [intOf]; omega
    · obtain rfl : k = a.length := by omega
      have h1 : y = a.sum := by rw [HZ.out.1, List.take_length]
      have h2 : z = b.sum := by rw [HZ.out.2, HL.out, List.take_length]
      by_cases hyz : y = z
      · have hbb : (y != z) = false := by simp [hyz]
        have HO : Hid (ord a b = ordT a b a.length) := Lib.hid (by unfold ord; rw [if_pos (by rw [← h1, ← h2]; exact hyz)])
        clear h1 h2 hyz
        go_wp2
        go_loopw [9] (fun i wr => ∃ z : Int, i = .int .i64 z ∧ -1 ≤ z ∧ z < a.length ∧ Hid (ord a b = ordT a b (z + 1).toNat) ∧ Dr w wr) (fun i _ => (intOf i + 1).toNat)
        case atStart => exact ⟨(a.length : Int) - 1, rfl, by omega, by omega, Lib.hid (by rw [HO.out]; congr 1; omega), Dr.refl _⟩
        case round =>
          obtain ⟨z', rfl, hz2, hz3, HZ', hdr⟩ := hrel
          by_cases hneg : z' = -1
          · subst hneg
            have HF : Hid (ord a b = 0) := Lib.hid (by rw [HZ'.out]; rfl)
            go_wp2
            go_ret
            exact ⟨by rw [HF.out]; rfl, hdr⟩
          · obtain ⟨j, rfl⟩ : ∃ j : Nat, z' = j := ⟨z'.toNat, by omega⟩
            have hlt1 : j < a.length := by omega
            have hlt2 : j < b.length := by have := HL.out; omega
            obtain ⟨ad, rfl, hc1⟩ := Ints.at (hA.keep hdr.below) hlt1
            obtain ⟨bd, rfl, hc2⟩ := Ints.at (hB.keep hdr.below) hlt2
            have HX : Hid (ord a b = if a[j] = b[j] then ordT a b j else if b[j] < a[j] then -1 else 1) := Lib.hid (by
              rw [HZ'.out, show ((j : Int) + 1).toNat = j + 1 by omega, ordT]
              simp [hlt1, hlt2])
            have q0 : (0 : Int) ≤ (j : Int) := by omega
            have q1 : (j : Int) < (a.length : Int) := by omega
            have q2 : (j : Int) < (b.length : Int) := by omega
            have q3 : ((j : Int)).toNat = j := by omega
            clear hneg hA hB
            generalize a[j] = p at *
            generalize b[j] = q at *
            by_cases hpq : p = q
            · have hb2 : (p != q) = false := by simp [hpq]
              have HX2 : Hid (ord a b = ordT a b j) := Lib.hid (by rw [HX.out, if_pos hpq])
              clear hpq HX
              go_wp2
              go_quiet (fail)
              go_wp2
              go_roundw
              case rel => exact ⟨(j : Int) - 1, rfl, by omega, by omega, Lib.hid (by rw [HX2.out]; congr 1; omega), hdr.drewN _⟩
              case measure => simp [intOf]
            · have hb2 : (p != q) = true := by simp [hpq]
              have HX2 : Hid (ord a b = cmpI q p) := Lib.hid (by rw [HX.out, if_neg hpq, cmpI_ne (fun e => hpq e.symm)])
              have HC := Lib.hid (fun W => cmp_any q p W)
              clear hpq HX
              go_wp2
              go_quiet (fail)
              go_wp2
              have k1 : (wr.drewN nq).cell? (ad.add j) = some (.int .i64 p) := hc1
              have k2 : (wr.drewN nq).cell? (bd.add j) = some (.int .i64 q) := hc2
              have hdr2 := hdr.drewN nq
              generalize wr.drewN nq = W at *
              go_quiet ((go_at_call 85; exact quiet_sm (HC.out _)))
              go_wp2
              go_ret
              exact ⟨by rw [HX2.out]; rfl, hdr2.drewN _⟩
      · have hbb : (y != z) = true := by simp [hyz]
        have HO : Hid (ord a b = cmpI y z) := Lib.hid (by rw [cmpI_ne hyz]; unfold ord; rw [if_neg (by rw [← h1, ← h2]; exact hyz), h1, h2])
        clear h1 h2 hyz
        go_wp2_with (go_at_call 85; refine (cmp_any y z _).mono ?_; rintro e w' ⟨rfl, rfl⟩)
        go_ret
        exact ⟨by rw [HO.out]; rfl, Dr.refl _⟩
end Go.Proofs.Tg
end
