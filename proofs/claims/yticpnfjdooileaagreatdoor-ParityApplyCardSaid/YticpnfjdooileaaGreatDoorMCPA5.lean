/- Parts of the proof: WB1, C1, WD1. -/
import Derived.Laws.ShiftsVarLaws
import Derived.Test.YticpnfjdooileaaGreatDoorMCPA0
import Derived.Test.YticpnfjdooileaaGreatDoorMCPA1
import Derived.Test.YticpnfjdooileaaGreatDoorMCPA2
import Derived.Test.YticpnfjdooileaaGreatDoorMCPA3
import Derived.Test.YticpnfjdooileaaGreatDoorMCPA4
section
/- Walks: sign vectors as bits. -/
namespace Go.Proofs.Tg
open Go.RowKit Go.Gr
set_option maxHeartbeats 1000000
set_option maxRecDepth 100000
theorem i64_and_n (a b : Nat) (ha : a < 9223372036854775808) (hb : b < 9223372036854775808) : bits BinOp.and IntKind.i64 (a : Int) (b : Int) = ((a &&& b : Nat) : Int) := by
  have hx : a &&& b < 2 ^ 63 := Nat.and_lt_two_pow _ (by omega)
  show IntKind.i64.wrap ((BitVec.ofInt 64 (a : Int) &&& BitVec.ofInt 64 (b : Int)).toNat : Int) = _
  rw [BitVec.toNat_and, ofInt_u64 a (by omega), ofInt_u64 b (by omega), IntKind.wrap_i64]
  omega
theorem i64_xor_n (a b : Nat) (ha : a < 9223372036854775808) (hb : b < 9223372036854775808) : bits BinOp.xor IntKind.i64 (a : Int) (b : Int) = ((a ^^^ b : Nat) : Int) := by
  have hx : a ^^^ b < 2 ^ 63 := Nat.xor_lt_two_pow (by omega) (by omega)
  show IntKind.i64.wrap ((BitVec.ofInt 64 (a : Int) ^^^ BitVec.ofInt 64 (b : Int)).toNat : Int) = _
  rw [BitVec.toNat_xor, ofInt_u64 a (by omega), ofInt_u64 b (by omega), IntKind.wrap_i64]
  omega
theorem pow_62 {k : Nat} (hk : k < 62) : 2 ^ k ≤ 2305843009213693952 := by
  have : 2 ^ k ≤ 2 ^ 61 := Nat.pow_le_pow_right (by omega) (by omega)
  exact Nat.le_trans this (by decide)
theorem wrap64_nat (n : Nat) (h : n < 9223372036854775808) : wrap64 (n : Int) = (n : Int) := by unfold wrap64; omega
theorem pack_step (q k : Nat) (x : Int) (hx : 0 ≤ x) (hx2 : x < 9223372036854775808) (hk : k < 62) (hq : q < 2 ^ k) :
    bits BinOp.xor IntKind.i64 (q : Int) (wrap64 (bits BinOp.and IntKind.i64 x 1 * 2 ^ k)) = ((q ^^^ ((x.toNat % 2) <<< k) : Nat) : Int) := by
  obtain ⟨X, rfl⟩ := Int.eq_ofNat_of_zero_le hx
  have hp := pow_62 hk
  have e1 : bits BinOp.and IntKind.i64 (X : Int) 1 = ((X % 2 : Nat) : Int) := by
    rw [show (1 : Int) = ((1 : Nat) : Int) from rfl, i64_and_n X 1 (by omega) (by omega), Nat.and_one_is_mod]
  have h2 : X % 2 * 2 ^ k ≤ 2 ^ k := by
    have : X % 2 ≤ 1 := by omega
    calc X % 2 * 2 ^ k ≤ 1 * 2 ^ k := Nat.mul_le_mul_right _ this
      _ = 2 ^ k := Nat.one_mul _
  have e2 : ((X % 2 : Nat) : Int) * 2 ^ k = ((X % 2 * 2 ^ k : Nat) : Int) := by simp
  rw [e1, e2, wrap64_nat _ (by omega), i64_xor_n _ _ (by omega) (by omega), Int.toNat_natCast, Nat.shiftLeft_eq]
theorem pack_any (A : Option Addr) (c : Nat) (l : List Int) (w : World) (hA : Ints w A l) (hn : l.length ≤ 62) (h0 : ∀ x ∈ l, 0 ≤ x ∧ x < 9223372036854775808) :
    Calls Tryz.prog 26 #[.slice A l.length c] w fun e w' => e = .returned (.int .i64 (Ev.pk l l.length : Nat)) ∧ w = w' := by
  have H0 := Lib.hid h0
  clear h0
  go_enter Tryz.func26, Tryz.ntmps26
  go_wp2
  go_loop [3, 8] (fun p i => ∃ k : Nat, k ≤ l.length ∧ i = .int .i64 k ∧ ∃ q : Nat, p = .int .i64 q ∧ q < 2 ^ k ∧ Hid (q = Ev.pk l k)) (fun _ i => l.length - (intOf i).toNat)
  case atStart => exact ⟨0, Nat.zero_le _, rfl, 0, rfl, by decide, Lib.hid rfl⟩
  case round =>
    obtain ⟨k, hk, rfl, q, rfl, hq, HQ⟩ := hrel
    by_cases hlt : k < l.length
    · obtain ⟨ad, rfl, hc⟩ := Ints.at hA hlt
      have hx := H0.out l[k] (List.getElem_mem _)
      have HG : Hid (l.getD k 0 = l[k]) := Lib.hid (by simp [hlt])
      clear hA
      generalize l[k] = x at *
      obtain ⟨hx1, hx2⟩ := hx
      go_wp2
      go_round
      case rel =>
        refine ⟨k + 1, by omega, by go_num, q ^^^ ((x.toNat % 2) <<< k), by rw [pack_step q k x hx1 hx2 (by omega) hq], ?_, Lib.hid ?_⟩
        · have := Ev.pk_lt l (k + 1)
          rw [Ev.pk, HG.out, ← HQ.out] at this
          exact this
        · rw [Ev.pk, HG.out, ← HQ.out]
      case measure => simp [intOf]; omega
    · obtain rfl : k = l.length := by omega
      go_wp2
      go_ret
      exact ⟨by rw [HQ.out]; rfl, rfl⟩
theorem ones_w (s : Nat) (w : World) (hs : s < 18446744073709551616) :
    Calls Tryz.prog 47 #[.int .u64 s] w fun e w' => e = .returned (.int .i64 (size s : Nat)) ∧ w = w' := by
  go_enter Tryz.func47, Tryz.ntmps47
  go_wp2_with (go_at_call 58; refine (ones_any s _ hs).mono ?_; rintro e w' ⟨rfl, rfl⟩)
  go_ret
  exact ⟨rfl, rfl⟩
theorem odd_any (s e : Nat) (w : World) (hs : s < 9223372036854775808) (he : e < 9223372036854775808) :
    Calls Tryz.prog 27 #[.int .i64 s, .int .i64 e] w fun r w' => r = .returned (.bool (decide (size (s &&& e) % 2 = 1))) ∧ w = w' := by
  have hx : s &&& e < 9223372036854775808 := Nat.lt_of_le_of_lt Nat.and_le_left hs
  have e1 := i64_and_n s e hs he
  have e2 := wrap_nat (s &&& e) (by omega)
  have H := Lib.hid (ones_w (s &&& e) w (by omega))
  have hl := size_le (s &&& e)
  go_enter Tryz.func27, Tryz.ntmps27
  go_wp2_with (go_at_call 47; refine H.out.mono ?_; rintro e w' ⟨rfl, rfl⟩)
  go_ret
  refine ⟨?_, rfl⟩
  show Ending.returned (.bool (bits BinOp.and IntKind.i64 ((size (s &&& e) : Nat) : Int) 1 == 1)) = _
  rw [show (1 : Int) = ((1 : Nat) : Int) from rfl, i64_and_n _ 1 (by omega) (by omega), Nat.and_one_is_mod]
  congr 2
  by_cases h : size (s &&& e) % 2 = 1
  · rw [h]; rfl
  · rw [decide_eq_false h]; simp; omega
theorem int_info : (Tryz.prog.info? 3).map (fun i => (i.zero, i.size, i.bytes)) = some (some (.int .i64 0), 1, 8) := by kernel_rfl
theorem make_ints (l n : Nat) (hl : l ≤ n) (hn : n ≤ 1000000) (w : World) : (Instr.makeSlice 33 (.int .i64 (l : Int)) (.int .i64 (n : Int))).run Tryz.prog w = .ok (.slice (some ⟨w.heap.size, 0, none⟩) l n) (w.alloc (.cells (madeCells #[.int .i64 0] n) 3)) := by
  obtain ⟨i0, hi, hz0, hz1, hz2⟩ := info_parts int_info
  have hr := run_make (P := Tryz.prog) w 33 3 i0 (.int .i64 0) Tryz.underlying33 hi hz0 .i64 .i64 l n (by omega) (by omega) (by rw [hz2]; omega) (by omega)
  rw [hz1, Nat.mul_one, Int.toNat_natCast, Int.toNat_natCast] at hr
  exact hr
theorem shr_bit (x i : Nat) (hx : x < 9223372036854775808) : bits BinOp.and IntKind.i64 ((x : Int) / 2 ^ i) 1 = if x.testBit i = true then 1 else 0 := by
  have e : (x : Int) / 2 ^ i = ((x / 2 ^ i : Nat) : Int) := by simp
  have hl : x / 2 ^ i < 9223372036854775808 := Nat.lt_of_le_of_lt (Nat.div_le_self _ _) hx
  rw [e, show (1 : Int) = ((1 : Nat) : Int) from rfl, i64_and_n _ 1 hl (by omega), Nat.and_one_is_mod, Nat.testBit_eq_decide_div_mod_eq]
  by_cases h : x / 2 ^ i % 2 = 1
  · rw [h]; simp
  · have : x / 2 ^ i % 2 = 0 := by omega
    rw [this]; simp
/-- The value that a call returns is a new block of numbers. -/
def RetNew (l : List Int) (w : World) (e : Ending) (w' : World) : Prop :=
  e = .returned (.slice (some ⟨w.heap.size, 0, none⟩) l.length l.length) ∧ Blk w' w.heap.size 3 (iarr l) ∧ Below w.heap.size w w'
theorem unp_set (x n k : Nat) (hk : k < n) : (Ev.unp x k ++ List.replicate (n - k) 0).set k (if x.testBit k = true then 1 else 0) = Ev.unp x (k + 1) ++ List.replicate (n - (k + 1)) 0 := by
  obtain ⟨m, hm⟩ : ∃ m, n - k = m + 1 := ⟨n - k - 1, by omega⟩
  rw [hm, show n - (k + 1) = m by omega]
  have hl : (Ev.unp x k).length = k := Ev.unp_len x k
  have e : Ev.unp x (k + 1) = Ev.unp x k ++ [if x.testBit k = true then 1 else 0] := by
    unfold Ev.unp; rw [List.range_succ, List.map_append]; rfl
  rw [e, List.replicate_succ, List.set_append_right _ _ (by rw [hl]; exact Nat.le_refl _), hl, Nat.sub_self, List.set_cons_zero]; simp
theorem unpack_any (x n : Nat) (w : World) (hx : x < 9223372036854775808) (hn : n ≤ 62) :
    Calls Tryz.prog 29 #[.int .i64 x, .int .i64 n] w (RetNew (Ev.unp x n) w) := by
  have hmk := fun W => make_ints n n (Nat.le_refl _) (by omega) W
  go_enter Tryz.func29, Tryz.ntmps29
  go_wp2
  clear hmk
  go_loopw [11] (fun i wr => ∃ k : Nat, k ≤ n ∧ i = .int .i64 k ∧ Blk wr w.heap.size 3 (iarr (Ev.unp x k ++ List.replicate (n - k) 0)) ∧ Below w.heap.size w wr) (fun i _ => n - (intOf i).toNat)
  case atStart =>
    refine ⟨0, Nat.zero_le _, rfl, ?_, (Below.refl _ _).alloc (Nat.le_refl _) _⟩
    have e : iarr (Ev.unp x 0 ++ List.replicate (n - 0) 0) = madeCells #[.int .i64 0] n := (iarr_made n).symm
    rw [e]
    exact Blk.new w 3 _
  case round =>
    obtain ⟨k, hk, rfl, B, hb⟩ := hrel
    have hlen : (Ev.unp x k ++ List.replicate (n - k) 0).length = n := by rw [List.length_append, Ev.unp_len, List.length_replicate]; omega
    by_cases hlt : k < n
    · have HB := Lib.hid B
      have c0 := B.cell k
      have f0 := B.frozen k
      rw [iarr_at _ (by rw [hlen]; exact hlt)] at c0
      generalize (Ev.unp x k ++ List.replicate (n - k) 0)[k]'(by rw [hlen]; exact hlt) = old at c0
      have hs := shr_bit x k hx
      clear B hlen
      go_wp2
      go_roundw
      case rel =>
        refine ⟨k + 1, by omega, by go_num, ?_, hb.setCell (Nat.le_refl _) _⟩
        have := HB.out.set k (.int .i64 (if x.testBit k = true then 1 else 0))
        rw [iarr_set, unp_set x n k hlt] at this
        simpa using this
      case measure => simp [intOf]; omega
    · obtain rfl : k = n := by omega
      go_wp2
      go_ret
      refine ⟨by rw [Ev.unp_len]; rfl, ?_, hb⟩
      simpa using B
def bit01 (l : List Int) : Bool := l.all fun x => x == 0 || x == 1
theorem bit01_iff {l : List Int} : bit01 l = true ↔ Ev.Bit01 l := by unfold bit01 Ev.Bit01; simp
theorem bit01_bad {l : List Int} {x : Int} (hx : x ∈ l) (h0 : ¬ x = 0) (h1 : ¬ x = 1) : bit01 l = false := by
  apply eq_false_of_ne_true
  rw [bit01_iff]
  exact fun h => (h x hx).elim h0 h1
theorem vsign_any (A : Option Addr) (c : Nat) (l : List Int) (w : World) (hA : Ints w A l) (hn : l.length ≤ 1000) :
    Calls Tryz.prog 39 #[.slice A l.length c] w fun e w' => e = .returned (.bool (bit01 l)) ∧ w = w' := by
  go_enter Tryz.func39, Tryz.ntmps39
  go_wp2
  go_loop [7] (fun i => ∃ k : Nat, k ≤ l.length ∧ i = .int .i64 k ∧ Hid (Ev.Bit01 (l.take k))) (fun i => l.length - (intOf i).toNat)
  case atStart => exact ⟨0, Nat.zero_le _, rfl, Lib.hid (by intro x hx; cases hx)⟩
  case round =>
    obtain ⟨k, hk, rfl, HG⟩ := hrel
    by_cases hlt : k < l.length
    · obtain ⟨ad, rfl, hc⟩ := Ints.at hA hlt
      have HT0 : Hid (l.take (k + 1) = l.take k ++ [l[k]]) := Lib.hid (List.take_succ_eq_append_getElem hlt)
      have HM : Hid (l[k] ∈ l) := Lib.hid (List.getElem_mem _)
      clear hA
      generalize l[k] = x at *
      by_cases h0 : x = 0
      · have b0 : (x != 0) = false := by simp [h0]
        have HG2 : Hid (Ev.Bit01 (l.take (k + 1))) := Lib.hid (by
          rw [HT0.out]; intro y hy
          rcases List.mem_append.1 hy with h | h
          · exact HG.out y h
          · simp at h; subst h; exact .inl h0)
        clear h0
        go_wp2
        go_round
        case rel => exact ⟨k + 1, by omega, by go_num, HG2⟩
        case measure => simp [intOf]; omega
      · have b0 : (x != 0) = true := by simp [h0]
        by_cases h1 : x = 1
        · have b1 : (x != 1) = false := by simp [h1]
          have HG2 : Hid (Ev.Bit01 (l.take (k + 1))) := Lib.hid (by
            rw [HT0.out]; intro y hy
            rcases List.mem_append.1 hy with h | h
            · exact HG.out y h
            · simp at h; subst h; exact .inr h1)
          clear h0 h1
          go_wp2
          go_round
          case rel => exact ⟨k + 1, by omega, by go_num, HG2⟩
          case measure => simp [intOf]; omega
        · have b1 : (x != 1) = true := by simp [h1]
          have HF : Hid (bit01 l = false) := Lib.hid (bit01_bad HM.out h0 h1)
          clear h0 h1
          go_wp2
          go_ret
          exact ⟨by rw [HF.out]; rfl, rfl⟩
    · have HF : Hid (bit01 l = true) := Lib.hid (bit01_iff.2 (by have := HG.out; rwa [List.take_of_length_le (by omega)] at this))
      go_wp2
      go_ret
      exact ⟨by rw [HF.out]; rfl, rfl⟩
end Go.Proofs.Tg
end
section
/- Characters and classes of monomials. Plain lists. -/
namespace Go.Ev
open Go.Gr Go.Mo
def b01 (l : List Int) : Bool := l.all fun x => x == 0 || x == 1
theorem b01_iff {l : List Int} : b01 l = true ↔ Bit01 l := by unfold b01 Bit01; simp
def badM (l : List (List Int)) : Bool := l.any fun m => !vldM m
def badS (s : List (List Int)) : Bool := s.any fun v => !b01 v
def diffL (s l : List (List Int)) : Bool := s.any fun v => l.any fun m => decide (v.length ≠ m.length)
/-- The error of sign vectors and monomials. -/
def chk (s l : List (List Int)) : Int := if badM l = true ∨ badS s = true then 1 else if diffL s l = true then 4 else 0
theorem badM_iff {l : List (List Int)} : badM l = true ↔ ∃ m ∈ l, vldM m = false := by unfold badM; simp
theorem badS_iff {l : List (List Int)} : badS l = true ↔ ∃ m ∈ l, b01 m = false := by unfold badS; simp
theorem diffL_iff {s l : List (List Int)} : diffL s l = true ↔ ∃ v ∈ s, ∃ m ∈ l, v.length ≠ m.length := by unfold diffL; simp
theorem chk_bad {s l : List (List Int)} (h : (∃ m ∈ l, vldM m = false) ∨ ∃ v ∈ s, b01 v = false) : chk s l = 1 := by
  unfold chk
  rw [if_pos (h.imp badM_iff.2 badS_iff.2)]
theorem chk_diff {s l : List (List Int)} (h1 : ∀ m ∈ l, vldM m = true) (h2 : ∀ v ∈ s, b01 v = true) (h : ∃ v ∈ s, ∃ m ∈ l, v.length ≠ m.length) : chk s l = 4 := by
  unfold chk
  rw [if_neg, if_pos (diffL_iff.2 h)]
  rw [badM_iff, badS_iff]
  rintro (⟨m, hm, e⟩ | ⟨m, hm, e⟩)
  · rw [h1 m hm] at e; cases e
  · rw [h2 m hm] at e; cases e
theorem chk_ok {s l : List (List Int)} (h1 : ∀ m ∈ l, vldM m = true) (h2 : ∀ v ∈ s, b01 v = true) (h : ∀ v ∈ s, ∀ m ∈ l, v.length = m.length) : chk s l = 0 := by
  unfold chk
  rw [if_neg, if_neg]
  · rw [diffL_iff]
    rintro ⟨v, hv, m, hm, e⟩
    exact e (h v hv m hm)
  · rw [badM_iff, badS_iff]
    rintro (⟨m, hm, e⟩ | ⟨m, hm, e⟩)
    · rw [h1 m hm] at e; cases e
    · rw [h2 m hm] at e; cases e
theorem chk_inv {s l : List (List Int)} (h : chk s l = 0) : (∀ m ∈ l, vldM m = true) ∧ (∀ v ∈ s, b01 v = true) ∧ ∀ v ∈ s, ∀ m ∈ l, v.length = m.length := by
  unfold chk at h
  split at h
  · omega
  · rename_i h1
    split at h
    · omega
    · rename_i h2
      rw [badM_iff, badS_iff] at h1
      rw [diffL_iff] at h2
      refine ⟨fun m hm => ?_, fun v hv => ?_, fun v hv m hm => ?_⟩
      · cases e : vldM m with
        | true => rfl
        | false => exact absurd (.inl ⟨m, hm, e⟩) h1
      · cases e : b01 v with
        | true => rfl
        | false => exact absurd (.inr ⟨v, hv, e⟩) h1
      · apply Classical.byContradiction
        intro e
        exact h2 ⟨v, hv, m, hm, e⟩
/-- The character of a monomial. -/
def chr (s : List (List Int)) (m : List Int) : List Int := s.map fun v => dotN m v v.length % 2
theorem chr_len (s : List (List Int)) (m : List Int) : (chr s m).length = s.length := by simp [chr]
theorem chr_bit (s : List (List Int)) (m : List Int) : ∀ x ∈ chr s m, x = 0 ∨ x = 1 := by
  intro x hx
  obtain ⟨v, _, rfl⟩ := List.mem_map.1 hx
  omega
theorem chr_odd {m v : List Int} (hv : Bit01 v) (hm : ∀ x ∈ m, 0 ≤ x) (hl : v.length = m.length) (h64 : m.length ≤ 64) : (dotN m v v.length % 2 = if size (pk v v.length &&& pk m m.length) % 2 = 1 then 1 else 0) := by
  rw [size_and m _ m.length h64, dotN_pr m v v.length hv rfl hm v.length (Nat.le_refl _), hl]
  split <;> omega
/-- The classes: keys so far and the indices of each. -/
def clsSt (ks : List (List Int)) : Nat → List (List Int) × List (List Nat)
  | 0 => ([], [])
  | i + 1 =>
    let K := (clsSt ks i).1
    let C := (clsSt ks i).2
    let k := K.idxOf (ks.getD i [])
    if k < K.length then (K, C.set k (C.getD k [] ++ [i])) else (K ++ [ks.getD i []], C ++ [[i]])
theorem clsSt_len (ks : List (List Int)) : ∀ i, (clsSt ks i).1.length = (clsSt ks i).2.length ∧ (clsSt ks i).1.length ≤ i
  | 0 => by simp [clsSt]
  | i + 1 => by
    have ih := clsSt_len ks i
    simp only [clsSt]
    split
    · simp only [List.length_set]; omega
    · simp only [List.length_append, List.length_cons, List.length_nil]; omega
theorem clsSt_old {ks : List (List Int)} {i : Nat} (h : (clsSt ks i).1.idxOf (ks.getD i []) < (clsSt ks i).1.length) : clsSt ks (i + 1) = ((clsSt ks i).1, (clsSt ks i).2.set ((clsSt ks i).1.idxOf (ks.getD i [])) ((clsSt ks i).2.getD ((clsSt ks i).1.idxOf (ks.getD i [])) [] ++ [i])) := by
  simp only [clsSt]; rw [if_pos h]
theorem clsSt_new {ks : List (List Int)} {i : Nat} (h : ¬ (clsSt ks i).1.idxOf (ks.getD i []) < (clsSt ks i).1.length) : clsSt ks (i + 1) = ((clsSt ks i).1 ++ [ks.getD i []], (clsSt ks i).2 ++ [[i]]) := by
  simp only [clsSt]; rw [if_neg h]
theorem clsSt_each (ks : List (List Int)) : ∀ i j, ((clsSt ks i).2.getD j []).length ≤ i
  | 0, j => by simp [clsSt]
  | i + 1, j => by
    have ih := clsSt_each ks i
    by_cases hc : (clsSt ks i).1.idxOf (ks.getD i []) < (clsSt ks i).1.length
    · rw [clsSt_old hc]
      have hk := (clsSt_len ks i).1
      generalize (clsSt ks i).1.idxOf (ks.getD i []) = k at *
      have h1 := ih j
      have h2 := ih k
      generalize (clsSt ks i).2 = C at *
      simp only [List.getD_eq_getElem?_getD, List.getElem?_set] at h1 h2 ⊢
      by_cases e : k = j
      · subst e
        rw [if_pos rfl, if_pos (by omega)]
        simp only [Option.getD_some, List.length_append, List.length_cons, List.length_nil]
        omega
      · rw [if_neg e]; omega
    · rw [clsSt_new hc]
      have h1 := ih j
      generalize (clsSt ks i).2 = C at *
      simp only [List.getD_eq_getElem?_getD] at h1 ⊢
      rcases Nat.lt_or_ge j C.length with h | h
      · rw [List.getElem?_append_left h]; omega
      · rw [List.getElem?_append_right h]
        cases hh : j - C.length with
        | zero => simp
        | succ z => simp
end Go.Ev
end
section
/- Walks: the check of sign vectors and monomials; characters. -/
namespace Go.Proofs.Tg
open Go.RowKit Go.Gr Go.Ev Go.Mo
set_option maxHeartbeats 2000000
set_option maxRecDepth 100000
theorem bit_same (l : List Int) : bit01 l = b01 l := rfl
theorem vld_lit (A : Option Addr) (c : Nat) (m : List Int) (w : World) (hA : Ints w A m) (hn : m.length ≤ 1000) (b : Bool) (hb : vldM m = b) :
    Calls Tryz.prog 14 #[.slice A m.length c] w fun e w' => e = .returned (.bool b) ∧ w = w' := by rw [← hb]; exact valid_any A c m w hA hn
theorem vsg_lit (A : Option Addr) (c : Nat) (m : List Int) (w : World) (hA : Ints w A m) (hn : m.length ≤ 1000) (b : Bool) (hb : b01 m = b) :
    Calls Tryz.prog 39 #[.slice A m.length c] w fun e w' => e = .returned (.bool b) ∧ w = w' := by rw [← hb, ← bit_same]; exact vsign_any A c m w hA hn
theorem all_take {α : Type} {P : α → Prop} {l : List α} {k : Nat} (hk : k < l.length) (h : ∀ x ∈ l.take k, P x) (h1 : P l[k]) : ∀ x ∈ l.take (k + 1), P x := by
  rw [List.take_succ_eq_append_getElem hk]
  intro x hx
  rcases List.mem_append.1 hx with h2 | h2
  · exact h x h2
  · simp at h2; rw [h2]; exact h1
theorem check_any (S B : Option Addr) (cs cb : Nat) (s l : List (List Int)) (w : World) (hS : Lists w S s) (hB : Lists w B l) (hs : s.length ≤ 1000) (hl : l.length ≤ 1000) (hs2 : ∀ v ∈ s, v.length ≤ 1000) (hl2 : ∀ v ∈ l, v.length ≤ 1000) :
    Calls Tryz.prog 34 #[.slice S s.length cs, .slice B l.length cb] w fun e w' => e = .returned (.int .i64 (chk s l)) ∧ w = w' := by
  have HS2 := Lib.hid hs2
  have HL2 := Lib.hid hl2
  clear hs2 hl2
  go_enter Tryz.func34, Tryz.ntmps34
  go_wp2
  go_loop [16] (fun i => ∃ k : Nat, i = .int .i64 k ∧ k ≤ l.length ∧ Hid (∀ m ∈ l.take k, vldM m = true)) (fun i => l.length - (intOf i).toNat)
  case atStart => exact ⟨0, rfl, Nat.zero_le _, Lib.hid (by simp)⟩
  case round =>
    obtain ⟨k, rfl, hk, HG⟩ := hrel
    by_cases hlt : k < l.length
    · obtain ⟨ad, A, c, rfl, hc, hA⟩ := hB.at hlt
      have hml := HL2.out l[k] (List.getElem_mem _)
      have HM : Hid (l[k] ∈ l) := Lib.hid (List.getElem_mem _)
      have HN : Hid (vldM l[k] = true → ∀ m ∈ l.take (k + 1), vldM m = true) := Lib.hid (all_take hlt HG.out)
      generalize l[k] = m at *
      by_cases hv : vldM m = true
      · have HV := Lib.hid (vld_lit A c m w hA hml true hv)
        have HG2 := Lib.hid (HN.out hv)
        clear hv
        go_wp2_with (go_at_call 14; refine HV.out.mono ?_; rintro e w' ⟨rfl, rfl⟩)
        go_round
        case rel => exact ⟨k + 1, by go_num, by omega, HG2⟩
        case measure => simp [intOf]; omega
      · have hv : vldM m = false := eq_false_of_ne_true hv
        have HV := Lib.hid (vld_lit A c m w hA hml false hv)
        have HC : Hid (chk s l = 1) := Lib.hid (chk_bad (.inl ⟨m, HM.out, hv⟩))
        clear hv
        go_wp2_with (go_at_call 14; refine HV.out.mono ?_; rintro e w' ⟨rfl, rfl⟩)
        go_ret
        exact ⟨by rw [HC.out]; rfl, rfl⟩
    · have HAM : Hid (∀ m ∈ l, vldM m = true) := Lib.hid (by have := HG.out; rwa [List.take_of_length_le (by omega)] at this)
      go_wp2
      go_loop [26] (fun i => ∃ k : Nat, i = .int .i64 k ∧ k ≤ s.length ∧ Hid (∀ m ∈ s.take k, b01 m = true)) (fun i => s.length - (intOf i).toNat)
      case atStart => exact ⟨0, rfl, Nat.zero_le _, Lib.hid (by simp)⟩
      case round =>
        clear HG
        obtain ⟨k', rfl, hk', HG⟩ := hrel
        by_cases hlt' : k' < s.length
        · obtain ⟨ad, A, c, rfl, hc, hA⟩ := hS.at hlt'
          have hml := HS2.out s[k'] (List.getElem_mem _)
          have HM : Hid (s[k'] ∈ s) := Lib.hid (List.getElem_mem _)
          have HN : Hid (b01 s[k'] = true → ∀ m ∈ s.take (k' + 1), b01 m = true) := Lib.hid (all_take hlt' HG.out)
          generalize s[k'] = m at *
          by_cases hv : b01 m = true
          · have HV := Lib.hid (vsg_lit A c m w hA hml true hv)
            have HG2 := Lib.hid (HN.out hv)
            clear hv
            go_wp2_with (go_at_call 39; refine HV.out.mono ?_; rintro e w' ⟨rfl, rfl⟩)
            go_round
            case rel => exact ⟨k' + 1, by go_num, by omega, HG2⟩
            case measure => simp [intOf]; omega
          · have hv : b01 m = false := eq_false_of_ne_true hv
            have HV := Lib.hid (vsg_lit A c m w hA hml false hv)
            have HC : Hid (chk s l = 1) := Lib.hid (chk_bad (.inr ⟨m, HM.out, hv⟩))
            clear hv
            go_wp2_with (go_at_call 39; refine HV.out.mono ?_; rintro e w' ⟨rfl, rfl⟩)
            go_ret
            exact ⟨by rw [HC.out]; rfl, rfl⟩
        · have HAS : Hid (∀ m ∈ s, b01 m = true) := Lib.hid (by have := HG.out; rwa [List.take_of_length_le (by omega)] at this)
          clear HG
          by_cases hs0 : s = []
          · have b0 : ((s.length : Int) == 0) = true := by simp [hs0]
            have HC : Hid (chk s l = 0) := Lib.hid (chk_ok HAM.out HAS.out (by rw [hs0]; intro v hv; cases hv))
            clear hs0
            go_wp2
            go_ret
            exact ⟨by rw [HC.out]; rfl, rfl⟩
          · have b0 : ((s.length : Int) == 0) = false := by simp [hs0]
            by_cases hl0 : l = []
            · have b1 : ((l.length : Int) == 0) = true := by simp [hl0]
              have HC : Hid (chk s l = 0) := Lib.hid (chk_ok HAM.out HAS.out (by rw [hl0]; intro v _ m hm; cases hm))
              clear hl0 hs0
              go_wp2
              go_ret
              exact ⟨by rw [HC.out]; rfl, rfl⟩
            · have b1 : ((l.length : Int) == 0) = false := by simp [hl0]
              have hsp : 0 < s.length := List.length_pos_iff.2 hs0
              have hlp : 0 < l.length := List.length_pos_iff.2 hl0
              obtain ⟨ad, A0, c0, rfl, hc0, _⟩ := hS.at hsp
              have hc0' : w.cell? ad = some (.slice A0 s[0].length c0) := by simpa [Addr.add] using hc0
              obtain ⟨n, hn0⟩ : ∃ n, s[0].length = n := ⟨_, rfl⟩
              have HN0 : Hid (∃ v ∈ s, v.length = n) := Lib.hid ⟨s[0], List.getElem_mem _, hn0⟩
              have HL0 : Hid (∃ m, m ∈ l) := Lib.hid ⟨l[0], List.getElem_mem _⟩
              have hnl : n ≤ 1000 := by rw [← hn0]; exact HS2.out _ (List.getElem_mem _)
              rw [hn0] at hc0'
              clear hl0 hs0 hc0 hn0
              go_wp2
              clear hc0'
              go_loop [48] (fun i => ∃ k : Nat, i = .int .i64 k ∧ k ≤ s.length ∧ Hid (∀ m ∈ s.take k, m.length = n)) (fun i => s.length - (intOf i).toNat)
              case atStart => exact ⟨0, rfl, Nat.zero_le _, Lib.hid (by simp)⟩
              case round =>
                obtain ⟨j, rfl, hj, HG⟩ := hrel
                by_cases hjl : j < s.length
                · obtain ⟨ad', A, c, he', hc, hA⟩ := hS.at hjl
                  injection he' with he'
                  subst he'
                  have HM : Hid (s[j] ∈ s) := Lib.hid (List.getElem_mem _)
                  have HN : Hid (s[j].length = n → ∀ m ∈ s.take (j + 1), m.length = n) := Lib.hid (all_take (P := fun m : List Int => m.length = n) hjl HG.out)
                  clear hA
                  generalize s[j] = m at *
                  by_cases hv : m.length = n
                  · have bb : ((m.length : Int) != (n : Int)) = false := by simp [hv]
                    have HG2 := Lib.hid (HN.out hv)
                    clear hv
                    go_wp2
                    go_round
                    case rel => exact ⟨j + 1, by go_num, by omega, HG2⟩
                    case measure => simp [intOf]; omega
                  · have bb : ((m.length : Int) != (n : Int)) = true := by simp; omega
                    have HC : Hid (chk s l = 4) := Lib.hid (by
                      obtain ⟨v0, hv0, hv1⟩ := HN0.out
                      obtain ⟨m0, hm0⟩ := HL0.out
                      refine chk_diff HAM.out HAS.out ?_
                      by_cases e : m0.length = n
                      · exact ⟨m, HM.out, m0, hm0, fun h => hv (h.trans e)⟩
                      · exact ⟨v0, hv0, m0, hm0, fun h => e (h.symm.trans hv1)⟩)
                    clear hv
                    go_wp2
                    go_ret
                    exact ⟨by rw [HC.out]; rfl, rfl⟩
                · have HSN : Hid (∀ m ∈ s, m.length = n) := Lib.hid (by have := HG.out; rwa [List.take_of_length_le (by omega)] at this)
                  clear HG
                  go_wp2
                  go_loop [59] (fun i => ∃ k : Nat, i = .int .i64 k ∧ k ≤ l.length ∧ Hid (∀ m ∈ l.take k, m.length = n)) (fun i => l.length - (intOf i).toNat)
                  case atStart => exact ⟨0, rfl, Nat.zero_le _, Lib.hid (by simp)⟩
                  case round =>
                    obtain ⟨j', rfl, hj', HG⟩ := hrel
                    by_cases hjl' : j' < l.length
                    · obtain ⟨bd, A, c, rfl, hc, hA⟩ := hB.at hjl'
                      have HM : Hid (l[j'] ∈ l) := Lib.hid (List.getElem_mem _)
                      have HN : Hid (l[j'].length = n → ∀ m ∈ l.take (j' + 1), m.length = n) := Lib.hid (all_take (P := fun m : List Int => m.length = n) hjl' HG.out)
                      have hml := HL2.out l[j'] (List.getElem_mem _)
                      clear hA
                      generalize l[j'] = m at *
                      by_cases hv : m.length = n
                      · have bb : ((m.length : Int) != (n : Int)) = false := by simp [hv]
                        have HG2 := Lib.hid (HN.out hv)
                        clear hv
                        go_wp2
                        go_round
                        case rel => exact ⟨j' + 1, by go_num, by omega, HG2⟩
                        case measure => simp [intOf]; omega
                      · have bb : ((m.length : Int) != (n : Int)) = true := by simp; omega
                        have HC : Hid (chk s l = 4) := Lib.hid (by
                          obtain ⟨v0, hv0, hv1⟩ := HN0.out
                          exact chk_diff HAM.out HAS.out ⟨v0, hv0, m, HM.out, fun h => hv (h.symm.trans hv1)⟩)
                        clear hv
                        go_wp2
                        go_ret
                        exact ⟨by rw [HC.out]; rfl, rfl⟩
                    · have HC : Hid (chk s l = 0) := Lib.hid (chk_ok HAM.out HAS.out (fun v hv m hm => by
                        have h := HG.out
                        rw [List.take_of_length_le (by omega)] at h
                        rw [HSN.out v hv, h m hm]))
                      go_wp2
                      go_ret
                      exact ⟨by rw [HC.out]; rfl, rfl⟩
end Go.Proofs.Tg
end
