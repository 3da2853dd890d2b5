/- Walks: sign vectors as bits. -/
import Derived.Test.YtapkdofmcchdcaaGreatDoorWL1
import Derived.Test.YtapkdofmcchdcaaGreatDoorWA
import Derived.Test.YtapkdofmcchdcaaGreatDoorE2
import Derived.Laws.ShiftsVarLaws
namespace Go.Proofs.Tg
open Go.RowKit Go.Gr
set_option maxHeartbeats 1000000
set_option maxRecDepth 100000
theorem i64_and_n (a b : Nat) (ha : a < 9223372036854775808) (hb : b < 9223372036854775808) : bits BinOp.and IntKind.i64 (a : Int) (b : Int) = ((a &&& b : Nat) : Int) := by
  have hx : a &&& b < 2 ^ 63 := Nat.and_lt_two_pow _ (by omega)
  show IntKind.i64.wrap ((BitVec.ofInt 64 (a : Int) &&& BitVec.ofInt 64 (b : Int)).toNat : Int) = _
  rw [BitVec.toNat_and, ofInt_u64 a (by omega), ofInt_u64 b (by omega), IntKind.wrap_i64]
  omega
theorem i64_xor_n (a b : Nat) (ha : a < 9223372036854775808) (hb : b < 9223372036854775808) : bits BinOp.xor IntKind.i64 (a : Int) (b : Int) = ((a ^^^ b : Nat) : Int) := by
  have hx : a ^^^ b < 2 ^ 63 := Nat.xor_lt_two_pow (by omega) (by omega)
  show IntKind.i64.wrap ((BitVec.ofInt 64 (a : Int) ^^^ BitVec.ofInt 64 (b : Int)).toNat : Int) = _
  rw [BitVec.toNat_xor, ofInt_u64 a (by omega), ofInt_u64 b (by omega), IntKind.wrap_i64]
  omega
theorem pow_62 {k : Nat} (hk : k < 62) : 2 ^ k ≤ 2305843009213693952 := by
  have : 2 ^ k ≤ 2 ^ 61 := Nat.pow_le_pow_right (by omega) (by omega)
  exact Nat.le_trans this (by decide)
theorem wrap64_nat (n : Nat) (h : n < 9223372036854775808) : wrap64 (n : Int) = (n : Int) := by unfold wrap64; omega
theorem pack_step (q k : Nat) (x : Int) (hx : 0 ≤ x) (hx2 : x < 9223372036854775808) (hk : k < 62) (hq : q < 2 ^ k) :
    bits BinOp.xor IntKind.i64 (q : Int) (wrap64 (bits BinOp.and IntKind.i64 x 1 * 2 ^ k)) = ((q ^^^ ((x.toNat % 2) <<< k) : Nat) : Int) := by
  obtain ⟨X, rfl⟩ := Int.eq_ofNat_of_zero_le hx
  have hp := pow_62 hk
  have e1 : bits BinOp.and IntKind.i64 (X : Int) 1 = ((X % 2 : Nat) : Int) := by
    rw [show (1 : Int) = ((1 : Nat) : Int) from rfl, i64_and_n X 1 (by omega) (by omega), Nat.and_one_is_mod]
  have h2 : X % 2 * 2 ^ k ≤ 2 ^ k := by
    have : X % 2 ≤ 1 := by omega
    calc X % 2 * 2 ^ k ≤ 1 * 2 ^ k := Nat.mul_le_mul_right _ this
      _ = 2 ^ k := Nat.one_mul _
  have e2 : ((X % 2 : Nat) : Int) * 2 ^ k = ((X % 2 * 2 ^ k : Nat) : Int) := by simp
  rw [e1, e2, wrap64_nat _ (by omega), i64_xor_n _ _ (by omega) (by omega), Int.toNat_natCast, Nat.shiftLeft_eq]
theorem pack_any (A : Option Addr) (c : Nat) (l : List Int) (w : World) (hA : Ints w A l) (hn : l.length ≤ 62) (h0 : ∀ x ∈ l, 0 ≤ x ∧ x < 9223372036854775808) :
    Calls Tryz.prog 56 #[.slice A l.length c] w fun e w' => e = .returned (.int .i64 (Ev.pk l l.length : Nat)) ∧ w = w' := by
  have H0 := Lib.hid h0
  clear h0
  go_enter Tryz.func56, Tryz.ntmps56
  go_wp2
  go_loop [3, 8] (fun p i => ∃ k : Nat, k ≤ l.length ∧ i = .int .i64 k ∧ ∃ q : Nat, p = .int .i64 q ∧ q < 2 ^ k ∧ Hid (q = Ev.pk l k)) (fun _ i => l.length - (intOf i).toNat)
  case atStart => exact ⟨0, Nat.zero_le _, rfl, 0, rfl, by decide, Lib.hid rfl⟩
  case round =>
    obtain ⟨k, hk, rfl, q, rfl, hq, HQ⟩ := hrel
    by_cases hlt : k < l.length
    · obtain ⟨ad, rfl, hc⟩ := Ints.at hA hlt
      have hx := H0.out l[k] (List.getElem_mem _)
      have HG : Hid (l.getD k 0 = l[k]) := Lib.hid (by simp [hlt])
      clear hA
      generalize l[k] = x at *
      obtain ⟨hx1, hx2⟩ := hx
      go_wp2
      go_round
      case rel =>
        refine ⟨k + 1, by omega, by go_num, q ^^^ ((x.toNat % 2) <<< k), by rw [pack_step q k x hx1 hx2 (by omega) hq], ?_, Lib.hid ?_⟩
        · have := Ev.pk_lt l (k + 1)
          rw [Ev.pk, HG.out, ← HQ.out] at this
          exact this
        · rw [Ev.pk, HG.out, ← HQ.out]
      case measure => simp [intOf]; omega
    · obtain rfl : k = l.length := by omega
      go_wp2
      go_ret
      exact ⟨by rw [HQ.out]; rfl, rfl⟩
theorem ones_w (s : Nat) (w : World) (hs : s < 18446744073709551616) :
    Calls Tryz.prog 107 #[.int .u64 s] w fun e w' => e = .returned (.int .i64 (size s : Nat)) ∧ w = w' := by
  go_enter Tryz.func107, Tryz.ntmps107
  go_wp2_with (go_at_call 150; refine (ones_any s _ hs).mono ?_; rintro e w' ⟨rfl, rfl⟩)
  go_ret
  exact ⟨rfl, rfl⟩
theorem odd_any (s e : Nat) (w : World) (hs : s < 9223372036854775808) (he : e < 9223372036854775808) :
    Calls Tryz.prog 57 #[.int .i64 s, .int .i64 e] w fun r w' => r = .returned (.bool (decide (size (s &&& e) % 2 = 1))) ∧ w = w' := by
  have hx : s &&& e < 9223372036854775808 := Nat.lt_of_le_of_lt Nat.and_le_left hs
  have e1 := i64_and_n s e hs he
  have e2 := wrap_nat (s &&& e) (by omega)
  have H := Lib.hid (ones_w (s &&& e) w (by omega))
  have hl := size_le (s &&& e)
  go_enter Tryz.func57, Tryz.ntmps57
  go_wp2_with (go_at_call 107; refine H.out.mono ?_; rintro e w' ⟨rfl, rfl⟩)
  go_ret
  refine ⟨?_, rfl⟩
  show Ending.returned (.bool (bits BinOp.and IntKind.i64 ((size (s &&& e) : Nat) : Int) 1 == 1)) = _
  rw [show (1 : Int) = ((1 : Nat) : Int) from rfl, i64_and_n _ 1 (by omega) (by omega), Nat.and_one_is_mod]
  congr 2
  by_cases h : size (s &&& e) % 2 = 1
  · rw [h]; rfl
  · rw [decide_eq_false h]; simp; omega
theorem int_info : (Tryz.prog.info? 3).map (fun i => (i.zero, i.size, i.bytes)) = some (some (.int .i64 0), 1, 8) := by kernel_rfl
theorem make_ints (l n : Nat) (hl : l ≤ n) (hn : n ≤ 1000000) (w : World) : (Instr.makeSlice 31 (.int .i64 (l : Int)) (.int .i64 (n : Int))).run Tryz.prog w = .ok (.slice (some ⟨w.heap.size, 0, none⟩) l n) (w.alloc (.cells (madeCells #[.int .i64 0] n) 3)) := by
  obtain ⟨i0, hi, hz0, hz1, hz2⟩ := info_parts int_info
  have hr := run_make (P := Tryz.prog) w 31 3 i0 (.int .i64 0) Tryz.underlying31 hi hz0 .i64 .i64 l n (by omega) (by omega) (by rw [hz2]; omega) (by omega)
  rw [hz1, Nat.mul_one, Int.toNat_natCast, Int.toNat_natCast] at hr
  exact hr
theorem shr_bit (x i : Nat) (hx : x < 9223372036854775808) : bits BinOp.and IntKind.i64 ((x : Int) / 2 ^ i) 1 = if x.testBit i = true then 1 else 0 := by
  have e : (x : Int) / 2 ^ i = ((x / 2 ^ i : Nat) : Int) := by simp
  have hl : x / 2 ^ i < 9223372036854775808 := Nat.lt_of_le_of_lt (Nat.div_le_self _ _) hx
  rw [e, show (1 : Int) = ((1 : Nat) : Int) from rfl, i64_and_n _ 1 hl (by omega), Nat.and_one_is_mod, Nat.testBit_eq_decide_div_mod_eq]
  by_cases h : x / 2 ^ i % 2 = 1
  · rw [h]; simp
  · have : x / 2 ^ i % 2 = 0 := by omega
    rw [this]; simp
/-- The value that a call returns is a new block of numbers. -/
def RetNew (l : List Int) (w : World) (e : Ending) (w' : World) : Prop :=
  e = .returned (.slice (some ⟨w.heap.size, 0, none⟩) l.length l.length) ∧ Blk w' w.heap.size 3 (iarr l) ∧ Below w.heap.size w w'
theorem unp_set (x n k : Nat) (hk : k < n) : (Ev.unp x k ++ List.replicate (n - k) 0).set k (if x.testBit k = true then 1 else 0) = Ev.unp x (k + 1) ++ List.replicate (n - (k + 1)) 0 := by
  obtain ⟨m, hm⟩ : ∃ m, n - k = m + 1 := ⟨n - k - 1, by omega⟩
  rw [hm, show n - (k + 1) = m by omega]
  have hl : (Ev.unp x k).length = k := Ev.unp_len x k
  have e : Ev.unp x (k + 1) = Ev.unp x k ++ [if x.testBit k = true then 1 else 0] := by
    unfold Ev.unp; rw [List.range_succ, List.map_append]; rfl
  rw [e, List.replicate_succ, List.set_append_right _ _ (by rw [hl]; exact Nat.le_refl _), hl, Nat.sub_self, List.set_cons_zero]; simp
theorem unpack_any (x n : Nat) (w : World) (hx : x < 9223372036854775808) (hn : n ≤ 62) :
    Calls Tryz.prog 59 #[.int .i64 x, .int .i64 n] w (RetNew (Ev.unp x n) w) := by
  have hmk := fun W => make_ints n n (Nat.le_refl _) (by omega) W
  go_enter Tryz.func59, Tryz.ntmps59
  go_wp2
  clear hmk
  go_loopw [11] (fun i wr => ∃ k : Nat, k ≤ n ∧ i = .int .i64 k ∧ Blk wr w.heap.size 3 (iarr (Ev.unp x k ++ List.replicate (n - k) 0)) ∧ Below w.heap.size w wr) (fun i _ => n - (intOf i).toNat)
  case atStart =>
    refine ⟨0, Nat.zero_le _, rfl, ?_, (Below.refl _ _).alloc (Nat.le_refl _) _⟩
    have e : iarr (Ev.unp x 0 ++ List.replicate (n - 0) 0) = madeCells #[.int .i64 0] n := (iarr_made n).symm
    rw [e]
    exact Blk.new w 3 _
  case round =>
    obtain ⟨k, hk, rfl, B, hb⟩ := hrel
    have hlen : (Ev.unp x k ++ List.replicate (n - k) 0).length = n := by rw [List.length_append, Ev.unp_len, List.length_replicate]; omega
    by_cases hlt : k < n
    · have HB := Lib.hid B
      have c0 := B.cell k
      have f0 := B.frozen k
      rw [iarr_at _ (by rw [hlen]; exact hlt)] at c0
      generalize (Ev.unp x k ++ List.replicate (n - k) 0)[k]'(by rw [hlen]; exact hlt) = old at c0
      have hs := shr_bit x k hx
      clear B hlen
      go_wp2
      go_roundw
      case rel =>
        refine ⟨k + 1, by omega, by go_num, ?_, hb.setCell (Nat.le_refl _) _⟩
        have := HB.out.set k (.int .i64 (if x.testBit k = true then 1 else 0))
        rw [iarr_set, unp_set x n k hlt] at this
        simpa using this
      case measure => simp [intOf]; omega
    · obtain rfl : k = n := by omega
      go_wp2
      go_ret
      refine ⟨by rw [Ev.unp_len]; rfl, ?_, hb⟩
      simpa using B
def bit01 (l : List Int) : Bool := l.all fun x => x == 0 || x == 1
theorem bit01_iff {l : List Int} : bit01 l = true ↔ Ev.Bit01 l := by unfold bit01 Ev.Bit01; simp
theorem bit01_bad {l : List Int} {x : Int} (hx : x ∈ l) (h0 : ¬ x = 0) (h1 : ¬ x = 1) : bit01 l = false := by
  apply eq_false_of_ne_true
  rw [bit01_iff]
  exact fun h => (h x hx).elim h0 h1
theorem vsign_any (A : Option Addr) (c : Nat) (l : List Int) (w : World) (hA : Ints w A l) (hn : l.length ≤ 1000) :
    Calls Tryz.prog 90 #[.slice A l.length c] w fun e w' => e = .returned (.bool (bit01 l)) ∧ w = w' := by
  go_enter Tryz.func90, Tryz.ntmps90
  go_wp2
  go_loop [7] (fun i => ∃ k : Nat, k ≤ l.length ∧ i = .int .i64 k ∧ Hid (Ev.Bit01 (l.take k))) (fun i => l.length - (intOf i).toNat)
  case atStart => exact ⟨0, Nat.zero_le _, rfl, Lib.hid (by intro x hx; cases hx)⟩
  case round =>
    obtain ⟨k, hk, rfl, HG⟩ := hrel
    by_cases hlt : k < l.length
    · obtain ⟨ad, rfl, hc⟩ := Ints.at hA hlt
      have HT0 : Hid (l.take (k + 1) = l.take k ++ [l[k]]) := Lib.hid (List.take_succ_eq_append_getElem hlt)
      have HM : Hid (l[k] ∈ l) := Lib.hid (List.getElem_mem _)
      clear hA
      generalize l[k] = x at *
      by_cases h0 : x = 0
      · have b0 : (x != 0) = false := by simp [h0]
        have HG2 : Hid (Ev.Bit01 (l.take (k + 1))) := Lib.hid (by
          rw [HT0.out]; intro y hy
          rcases List.mem_append.1 hy with h | h
          · exact HG.out y h
          · simp at h; subst h; exact .inl h0)
        clear h0
        go_wp2
        go_round
        case rel => exact ⟨k + 1, by omega, by go_num, HG2⟩
        case measure => simp [intOf]; omega
      · have b0 : (x != 0) = true := by simp [h0]
        by_cases h1 : x = 1
        · have b1 : (x != 1) = false := by simp [h1]
          have HG2 : Hid (Ev.Bit01 (l.take (k + 1))) := Lib.hid (by
            rw [HT0.out]; intro y hy
            rcases List.mem_append.1 hy with h | h
            · exact HG.out y h
            · simp at h; subst h; exact .inr h1)
          clear h0 h1
          go_wp2
          go_round
          case rel => exact ⟨k + 1, by omega, by go_num, HG2⟩
          case measure => simp [intOf]; omega
        · have b1 : (x != 1) = true := by simp [h1]
          have HF : Hid (bit01 l = false) := Lib.hid (bit01_bad HM.out h0 h1)
          clear h0 h1
          go_wp2
          go_ret
          exact ⟨by rw [HF.out]; rfl, rfl⟩
    · have HF : Hid (bit01 l = true) := Lib.hid (bit01_iff.2 (by have := HG.out; rwa [List.take_of_length_le (by omega)] at this))
      go_wp2
      go_ret
      exact ⟨by rw [HF.out]; rfl, rfl⟩
end Go.Proofs.Tg
