/- Parts of the proof: WI1, G1, WI2, WI3. -/
import Derived.OwnWalk
import Derived.Lib.TrailingZeros
import Derived.StillTailTactics
import Derived.Deep.RegionHeld3
import Derived.Test.YtpkompfkhoceoaaGreatDoorMMV0
import Derived.Test.YtpkompfkhoceoaaGreatDoorMMV5
section
/- Walks: digits as one word. -/
namespace Go.Proofs.Tg
open Go.RowKit Go.Qn
set_option maxHeartbeats 1000000
set_option maxRecDepth 100000
/-- The words of a number below 2^64. -/
def wds (m : Nat) : List Nat := if m = 0 then [] else [m]
theorem psimple_nil (w : World) : Calls Tryz.prog 169 #[.string ByteArray.empty] w fun e w' => e = .returned (.slice none 0 0) ∧ w = w' := by
  go_enter Tryz.func169, Tryz.ntmps169
  go_wp2
  refine wp_loop_rounds 1 ?_
  rw [rounds_succ]
  go_wp2
  go_ret
  exact ⟨rfl, rfl⟩
theorem conv_bytes (w : World) (s : ByteArray) : ∃ c w1, (convert 9 149 (.string s)).run Tryz.prog w = .ok (.slice (some ⟨w.heap.size, 0, none⟩) s.size c) w1 ∧
    (∀ k (hk : k < s.size), w1.cell? ⟨w.heap.size, k, none⟩ = some (.int .u8 (s[k].toNat : Int))) ∧ Below w.heap.size w w1 := by
  refine ⟨_, _, run_bytes_of_string w _ _ 5 s Tryz.underlying9 Tryz.underlying149 Tryz.underlying5, fun k hk => ?_, ?_⟩
  · have := World.cell?_alloc_mark w.drew (bytesRow s (grownCap w s.size 0 5)) 5 ((bytesRow s (grownCap w s.size 0 5)).size, (bytesRow s (grownCap w s.size 0 5)).size + 1) k
    refine Eq.trans this ?_
    exact bytesRow_at s _ k hk
  · exact (Below.drew (Below.refl _ _)).alloc (Nat.le_refl _) _
theorem info135 : (Tryz.prog.info? 135).map (fun i => (i.zero, i.size, i.bytes)) = some (some (.int .u64 0), 1, 8) := by kernel_rfl
theorem val_take (l : List UInt8) (k : Nat) (hk : k < l.length) : val (l.take (k + 1)) = 10 * val (l.take k) + (l[k].toNat - 48) := by
  rw [List.take_succ_eq_append_getElem hk, val_snoc]
theorem pow_19 {k : Nat} (h : k ≤ 19) : 10 ^ k ≤ 10000000000000000000 := by
  have : 10 ^ k ≤ 10 ^ 19 := Nat.pow_le_pow_right (by omega) h
  exact Nat.le_trans this (by decide)
set_option maxHeartbeats 2000000 in
theorem psimple_any (s : ByteArray) (w : World) (h0 : 0 < s.size) (hs : s.size ≤ 19) (hd : ∀ c ∈ s.data.toList, isD c = true) :
    Calls Tryz.prog 169 #[.string s] w (RetSl (wds (val s.data.toList)).length 1 ((wds (val s.data.toList)).map vs) w) := by
  have HD := Lib.hid hd
  clear hd
  obtain ⟨c, w1, hrun, hcell, hb1⟩ := conv_bytes w s
  have HC := Lib.hid hcell
  have HL := Lib.hid (len_size s)
  clear hcell
  have hz := hb1.size
  have m1 : ((s.size : Int) - 1) % 19 = (s.size : Int) - 1 := by omega
  obtain ⟨i0, hi, hz0, hz1, hz2⟩ := info_parts info135
  go_enter Tryz.func169, Tryz.ntmps169
  go_wp2
  refine wp_loop_rounds 2 ?_
  rw [rounds_succ]
  go_wp2
  go_loop [5, 6, 25] (fun ch ba i => ∃ k : Nat, k ≤ s.size ∧ i = .int .i64 k ∧ ∃ v p : Nat, ch = .int .u64 v ∧ ba = .int .u64 p ∧ Hid (v = val (s.data.toList.take k) ∧ p = 10 ^ k ∧ v < 10 ^ k)) (fun _ _ i => s.size - (intOf i).toNat)
  case atStart => exact ⟨0, Nat.zero_le _, rfl, 0, 1, rfl, rfl, Lib.hid ⟨rfl, rfl, by decide⟩⟩
  case round =>
    obtain ⟨k, hk, rfl, v, p, rfl, rfl, HV⟩ := hrel
    by_cases hlt : k < s.size
    · have hc := HC.out k hlt
      have hlt' : k < s.data.toList.length := by rw [HL.out]; exact hlt
      have hD := HD.out s.data.toList[k] (List.getElem_mem _)
      obtain ⟨d1, d2⟩ := isD_int hD
      have HX : Hid (val (s.data.toList.take (k + 1)) = 10 * v + (s[k].toNat - 48)) := Lib.hid (by rw [val_take _ _ hlt', HV.out.1]; rfl)
      have hv : v < 1000000000000000000 := Nat.lt_of_lt_of_le HV.out.2.2 (by
        have : 10 ^ k ≤ 10 ^ 18 := Nat.pow_le_pow_right (by omega) (by omega)
        exact Nat.le_trans this (by decide))
      have hp : p ≤ 1000000000000000000 := by
        rw [HV.out.2.1]
        have : 10 ^ k ≤ 10 ^ 18 := Nat.pow_le_pow_right (by omega) (by omega)
        exact Nat.le_trans this (by decide)
      have e1 : (48 : Int) ≤ (s[k].toNat : Int) := d1
      have e2 : (s[k].toNat : Int) ≤ 57 := d2
      clear d1 d2 hD
      go_wp2
      go_round
      case rel =>
        have h1 := HX.out
        have h2 := HV.out
        refine ⟨k + 1, by omega, by go_num, 10 * v + (s[k].toNat - 48), p * 10, by go_num, by go_num, Lib.hid ⟨h1.symm, by rw [h2.2.1, Nat.pow_succ], ?_⟩⟩
        rw [Nat.pow_succ]; omega
      case measure => simp [intOf]; omega
    · obtain rfl : k = s.size := by omega
      have hvv : v = val s.data.toList := by rw [HV.out.1, List.take_of_length_le (by rw [HL.out]; omega)]
      have hlt : v < 18446744073709551616 := Nat.lt_of_lt_of_le HV.out.2.2 (Nat.le_trans (pow_19 hs) (by decide))
      have HVV := Lib.hid hvv
      clear hvv
      have dd : decide (s.size < s.size) = false := by simp
      have q2 : (0 : Int) ≤ (s.size : Int) := by omega
      have q3 : ((s.size : Int)).toNat = s.size := by omega
      go_wp2
      refine wp_loop_rounds 1 ?_
      rw [rounds_succ]
      by_cases hv0 : v = 0
      · subst hv0
        have hb0 : (((0 : Nat) : Int) != 0) = false := by decide
        go_wp2
        rw [rounds_succ]
        go_wp2
        go_ret
        rw [← HVV.out]
        exact ⟨none, 0, rfl, Nat.le_refl _, Sl.nil _ _ _, hb1⟩
      · have hvp : 0 < v := by omega
        have hb0 : ((v : Int) != 0) = true := by simp; omega
        clear hv0
        go_wp2_with (at_builtin; refine wpList_append_own _ rfl _ _ 120 rfl w.heap.size 135 i0 (.int .u64 0) 1 8 Tryz.underlying120 hi hz0 hz1 hz2 rfl (by decide) (.slice none 0 0) 0 [] rfl (World.ownsRow_nil _ _ _ _) ⟨w1.heap.size, 0, none⟩ 1 1 [.int .u64 v] rfl rfl ?c1 ?c2 ?c3 ?c4 ?c5 ?_
                     case c1 => exact cell_one_new _ _ _
                     case c2 => simp [Value.oneCell']
                     case c3 => simp only [maxLen]; omega
                     case c4 => omega
                     case c5 => simp; omega
                     intro v' w2 hown' hgrow _)
        rw [rounds_succ]
        go_wp2
        go_ret
        obtain ⟨A, c2, hv, hc2, hS⟩ := Sl.of_own hown'
        have hb2 : Below w.heap.size w w2 := (hb1.alloc hb1.size _).grown hgrow (by simp; omega) (fun k hk => by simp [Value.ownBlock] at hk)
        have hw : wds (val s.data.toList) = [v] := by rw [← HVV.out]; unfold wds; rw [if_neg (by omega)]
        rw [hw]
        exact ⟨A, c2, by show Ending.returned v' = _; rw [hv]; rfl, hc2, by simpa [vs] using hS, hb2⟩
theorem psimple (s : ByteArray) (w : World) (hs : s.size ≤ 19) (hd : ∀ c ∈ s.data.toList, isD c = true) :
    Calls Tryz.prog 169 #[.string s] w (RetSl (wds (val s.data.toList)).length 1 ((wds (val s.data.toList)).map vs) w) := by
  by_cases h0 : s.size = 0
  · have e : s = ByteArray.empty := by
      rw [← bs_self s, List.eq_nil_of_length_eq_zero (l := s.data.toList) (by rw [len_size]; exact h0)]; rfl
    subst e
    exact (psimple_nil w).mono fun e w' ⟨h1, h2⟩ => by subst h2; exact ⟨none, 0, h1, Nat.le_refl _, Sl.nil _ _ _, Below.refl _ _⟩
  · exact psimple_any s w (by omega) hs hd
theorem psplit (s : ByteArray) (w : World) (hs : s.size ≤ 19) (hd : ∀ c ∈ s.data.toList, isD c = true) :
    Calls Tryz.prog 143 #[.string s, .slice none 0 0] w (RetSl (wds (val s.data.toList)).length 1 ((wds (val s.data.toList)).map vs) w) := by
  have HD := Lib.hid hd
  clear hd
  go_enter Tryz.func143, Tryz.ntmps143
  go_wp2
  refine wp_loop_rounds 1 ?_
  rw [rounds_succ]
  go_wp2_with (go_at_call 169; refine (psimple _ _ hs HD.out).mono ?_; rintro e w' ⟨A, c, rfl, h1, h2, h3⟩)
  go_ret
  exact ⟨A, c, rfl, h1, h2, h3⟩
theorem pwords (s : ByteArray) (w : World) (hs : s.size ≤ 19) (hd : ∀ c ∈ s.data.toList, isD c = true) :
    Calls Tryz.prog 119 #[.string s] w (RetSl (wds (val s.data.toList)).length 1 ((wds (val s.data.toList)).map vs) w) := by
  have HD := Lib.hid hd
  clear hd
  go_enter Tryz.func119, Tryz.ntmps119
  go_wp2_with (go_at_call 143; refine (psplit _ _ hs HD.out).mono ?_; rintro e w' ⟨A, c, rfl, h1, h2, h3⟩)
  go_ret
  exact ⟨A, c, rfl, h1, h2, h3⟩
/-- An integer of one word that a call returns. -/
def RetInt (neg : Bool) (m : Nat) (w : World) (e : Ending) (w' : World) : Prop :=
  ∃ A c, e = .returned (.agg #[.bool neg, .slice A (wds m).length c]) ∧ Sets w' A (wds m) ∧ Below w.heap.size w w'
theorem parse_any (s : ByteArray) (w : World) (hs : s.size ≤ 19) (hd : ∀ c ∈ s.data.toList, isD c = true) :
    Calls Tryz.prog 82 #[.string s] w (RetInt false (val s.data.toList) w) := by
  have HD := Lib.hid hd
  clear hd
  have hbA : Below w.heap.size w (w.alloc (.cells #[.bool false, .slice none 0 0] 122)) := (Below.refl _ _).alloc (Nat.le_refl _) _
  go_enter Tryz.func82, Tryz.ntmps82
  go_wp2_with (go_at_call 119; refine (pwords _ _ hs HD.out).mono ?_; rintro e w1 ⟨A, c, rfl, h1, h2, h3⟩
               have c0 := keep_cell h3 (Blk.cell (Blk.new w 122 #[.bool false, .slice none 0 0]) 0)
               have c1 := keep_cell h3 (Blk.cell (Blk.new w 122 #[.bool false, .slice none 0 0]) 1)
               have f0 := ((Blk.new w 122 #[.bool false, .slice none 0 0]).keep h3 (by simp)).frozen 0
               have f1 := ((Blk.new w 122 #[.bool false, .slice none 0 0]).keep h3 (by simp)).frozen 1)
  refine bodyPost_ret (v := .agg #[.bool false, .slice A (wds (val s.data.toList)).length c]) (by simp [results, Tryz.results82, go_sem, c0, c1]) rfl ⟨A, c, rfl, ?_, ?_⟩
  · have h4 := Sl.put h2 c0 (by simp [vs]) (.bool false)
    exact Sl.put h4 (v := .slice none 0 0) (by rw [World.cell?_setCell_other _ _ _ _ (by simp)]; exact c1) (by simp [vs]) _
  · exact (((hbA.trans (h3.mono (by simp))).setCell (by simp) _).setCell (by simp) _)
end Go.Proofs.Tg
end
section
/- The binary method for the greatest common divisor. Plain numbers. -/
namespace Go.Ev
open Go.Lib
theorem lead_form {x c m : Nat} (h : x = 2 ^ c * (2 * m + 1)) : Lead x c := by
  subst h
  constructor
  · rw [Nat.testBit_eq_decide_div_mod_eq, Nat.mul_div_cancel_left _ (Nat.two_pow_pos c)]
    simp
  · intro b hb
    rw [Nat.testBit_eq_decide_div_mod_eq, decide_eq_false_iff_not]
    obtain ⟨d, rfl⟩ : ∃ d, c = b + 1 + d := ⟨c - b - 1, by omega⟩
    rw [show (2 : Nat) ^ (b + 1 + d) * (2 * m + 1) = 2 ^ b * (2 * (2 ^ d * (2 * m + 1))) by rw [Nat.pow_add, Nat.pow_succ]; simp only [Nat.mul_assoc], Nat.mul_div_cancel_left _ (Nat.two_pow_pos b)]
    omega
theorem lead_or {x y i j : Nat} (hx : Lead x i) (hy : Lead y j) : Lead (x ||| y) (min i j) := by
  constructor
  · rw [Nat.testBit_or]
    rcases Nat.le_total i j with h | h
    · rw [Nat.min_eq_left h, hx.1]; rfl
    · rw [Nat.min_eq_right h, hy.1]; simp
  · intro b hb
    rw [Nat.testBit_or, hx.2 b (by omega), hy.2 b (by omega)]; rfl
theorem ctz_spec {x : Nat} (h0 : x ≠ 0) (hx : x < 18446744073709551616) : ∃ m, x = 2 ^ ctz 64 x * (2 * m + 1) ∧ ctz 64 x < 64 := by
  obtain ⟨m, hm, hk⟩ := ctzFrom_spec 64 x (by omega) (by omega)
  have : ctz 64 x = ctzFrom 64 x := by unfold ctz; rw [if_neg h0]
  rw [this]
  exact ⟨m, hm, hk⟩
theorem odd_coprime_pow {a : Nat} (h : a % 2 = 1) (k : Nat) : Nat.gcd a (2 ^ k) = 1 := by
  have h2 : Nat.gcd a 2 = 1 := by
    rw [Nat.gcd_comm, Nat.gcd_rec, h]; rfl
  exact Nat.Coprime.pow_right k h2
theorem gcd_shift {a b k : Nat} (h : a % 2 = 1) : Nat.gcd a (2 ^ k * b) = Nat.gcd a b :=
  Nat.Coprime.gcd_mul_left_cancel_right b (Nat.Coprime.symm (odd_coprime_pow h k))
/-- A number without its factors 2. -/
def odd (x : Nat) : Nat := x / 2 ^ ctz 64 x
theorem odd_spec {x : Nat} (h0 : x ≠ 0) (hx : x < 18446744073709551616) : odd x % 2 = 1 ∧ x = 2 ^ ctz 64 x * odd x ∧ 0 < odd x ∧ odd x ≤ x ∧ ctz 64 x < 64 := by
  obtain ⟨m, hm, hk⟩ := ctz_spec h0 hx
  have e : odd x = 2 * m + 1 := by
    unfold odd
    generalize ctz 64 x = c at *
    rw [hm, Nat.mul_div_cancel_left _ (Nat.two_pow_pos c)]
  refine ⟨by rw [e]; omega, by rw [e]; exact hm, by rw [e]; omega, Nat.div_le_self _ _, hk⟩
theorem gcd_two {x y : Nat} (hx0 : x ≠ 0) (hy0 : y ≠ 0) (hx : x < 18446744073709551616) (hy : y < 18446744073709551616) :
    Nat.gcd x y = Nat.gcd (odd x) y * 2 ^ ctz 64 (x ||| y) ∧ ctz 64 (x ||| y) < 64 := by
  obtain ⟨a1, a2, a3, _, _⟩ := odd_spec hx0 hx
  obtain ⟨b1, b2, b3, _, _⟩ := odd_spec hy0 hy
  have hxy : x ||| y < 18446744073709551616 := Nat.or_lt_two_pow (n := 64) hx hy
  have hxy0 : x ||| y ≠ 0 := fun e => hx0 (Nat.le_zero.1 (e ▸ Nat.left_le_or))
  obtain ⟨m, hm, hk⟩ := ctz_spec hxy0 hxy
  refine ⟨?_, hk⟩
  have l1 : Lead x (ctz 64 x) := by obtain ⟨m, hm, _⟩ := ctz_spec hx0 hx; exact lead_form hm
  have l2 : Lead y (ctz 64 y) := by obtain ⟨m, hm, _⟩ := ctz_spec hy0 hy; exact lead_form hm
  have e := (lead_form hm).inj (lead_or l1 l2)
  rw [e]
  generalize odd x = p at *
  generalize odd y = q at *
  generalize ctz 64 x = i at *
  generalize ctz 64 y = j at *
  subst a2 b2
  rw [gcd_shift a1]
  rcases Nat.le_total i j with h | h
  · obtain ⟨d, rfl⟩ : ∃ d, j = i + d := ⟨j - i, by omega⟩
    rw [Nat.min_eq_left h, Nat.pow_add, Nat.mul_assoc, Nat.gcd_mul_left, gcd_shift a1, Nat.mul_comm]
  · obtain ⟨d, rfl⟩ : ∃ d, i = j + d := ⟨i - j, by omega⟩
    rw [Nat.min_eq_right h, Nat.pow_add, Nat.mul_assoc, Nat.gcd_mul_left, Nat.gcd_comm _ q, gcd_shift b1, Nat.mul_comm, Nat.gcd_comm]
theorem gcd_odd {a y : Nat} (ha : a % 2 = 1) (hy0 : y ≠ 0) (hy : y < 18446744073709551616) : Nat.gcd a y = Nat.gcd a (odd y) := by
  obtain ⟨_, b2, _⟩ := odd_spec hy0 hy
  have : Nat.gcd a y = Nat.gcd a (2 ^ ctz 64 y * odd y) := by rw [← b2]
  rw [this, gcd_shift ha]
theorem gcd_sub {a b : Nat} (h : a ≤ b) : Nat.gcd a (b - a) = Nat.gcd a b := by
  have := Nat.gcd_add_self_right (m := a) (n := b - a)
  rw [Nat.sub_add_cancel h] at this
  exact this.symm
end Go.Ev
end
section
/- Walks: the greatest common divisor of two words. -/
namespace Go.Proofs.Tg
open Go.RowKit Go.Qn Go.Gr
set_option maxHeartbeats 1000000
set_option maxRecDepth 100000
theorem shr_nat (x k : Nat) : (x : Int) / 2 ^ k = ((x / 2 ^ k : Nat) : Int) := by simp
theorem gword_any (x y : Nat) (w : World) (hx : x < 18446744073709551616) (hy : y < 18446744073709551616) (hx0 : x ≠ 0) (hT : Tab w) :
    Calls Tryz.prog 150 #[.int .u64 x, .int .u64 y] w fun e w' => e = .returned (.int .u64 (Nat.gcd x y : Nat)) ∧ w = w' := by
  have hxb : ((x : Int) == 0) = false := by simp; omega
  by_cases hy0 : y = 0
  · subst hy0
    have hyb : (((0 : Nat) : Int) == 0) = true := by decide
    go_enter Tryz.func150, Tryz.ntmps150
    go_wp2
    go_ret
    refine ⟨?_, rfl⟩
    have e := u64_or_nat x 0 hx (by omega)
    rw [Nat.or_zero] at e
    rw [Nat.gcd_zero_right]
    exact congrArg (fun z => Ending.returned (.int .u64 z)) e
  · have hyb : ((y : Int) == 0) = false := by simp; omega
    have hor : x ||| y < 18446744073709551616 := Nat.or_lt_two_pow (n := 64) hx hy
    have hor0 : x ||| y ≠ 0 := fun e => hx0 (Nat.le_zero.1 (e ▸ Nat.left_le_or))
    obtain ⟨G, hk⟩ := Ev.gcd_two hx0 hy0 hx hy
    obtain ⟨o1, o2, o3, o4, o5⟩ := Ev.odd_spec hx0 hx
    have T1 : Hid (Calls Tryz.prog 175 #[.int .u64 (bits BinOp.or IntKind.u64 (x : Int) (y : Int))] w fun e w' => e = .returned (.int .i64 (Lib.ctz 64 (x ||| y) : Nat)) ∧ w = w') := Lib.hid (by
      rw [u64_or_nat x y hx hy]; exact tz_any _ w hor hor0 hT)
    have T2 := Lib.hid (tz_any x w hx hx0 hT)
    have hX : Hid ((x : Int) / 2 ^ Lib.ctz 64 x = (Ev.odd x : Nat)) := Lib.hid (by rw [shr_nat]; rfl)
    have hG : Hid (Nat.gcd x y = Nat.gcd (Ev.odd x) y * 2 ^ Lib.ctz 64 (x ||| y)) := Lib.hid G
    have HO1 := Lib.hid o1
    generalize Ev.odd x = x1 at *
    generalize Lib.ctz 64 x = c1 at *
    generalize Lib.ctz 64 (x ||| y) = c2 at *
    clear G o1 o2 hor0
    go_enter Tryz.func150, Tryz.ntmps150
    go_wp2_with (first
      | (go_at_call 175; (with_reducible refine T1.out.mono ?_); rintro e w' ⟨rfl, rfl⟩)
      | (go_at_call 175; (with_reducible refine T2.out.mono ?_); rintro e w' ⟨rfl, rfl⟩))
    have hgl : Nat.gcd x y ≤ x := Nat.gcd_le_left y (by omega)
    go_loop [0, 1] (fun a b => ∃ X Y : Nat, a = .int .u64 X ∧ b = .int .u64 Y ∧ X < 18446744073709551616 ∧ Y < 18446744073709551616 ∧ 0 < X ∧ Hid (X % 2 = 1 ∧ Nat.gcd X Y = Nat.gcd x1 y)) (fun a b => (intOf a).toNat + (intOf b).toNat)
    case atStart => exact ⟨x1, y, by rw [hX.out], rfl, by omega, hy, o3, Lib.hid ⟨HO1.out, rfl⟩⟩
    case round =>
      obtain ⟨X, Y, rfl, rfl, hX1, hY1, hX0, HG⟩ := hrel
      by_cases hY0 : Y = 0
      · subst hY0
        have hb : (((0 : Nat) : Int) != 0) = false := by decide
        have e : X = Nat.gcd x1 y := by rw [← HG.out.2, Nat.gcd_zero_right]
        have hm : X * 2 ^ c2 = Nat.gcd x y := by rw [hG.out, e]
        have HM := Lib.hid hm
        clear e hm
        go_wp2
        go_ret
        refine ⟨?_, rfl⟩
        show Ending.returned (.int .u64 (IntKind.u64.wrap ((X : Int) * 2 ^ c2))) = _
        have e2 : (X : Int) * 2 ^ c2 = ((X * 2 ^ c2 : Nat) : Int) := by simp
        rw [e2, HM.out, wrap_nat _ (by omega)]
      · have hb : ((Y : Int) != 0) = true := by simp; omega
        obtain ⟨q1, q2, q3, q4, q5⟩ := Ev.odd_spec hY0 hY1
        have T3 := Lib.hid (tz_any Y w hY1 hY0 hT)
        have hG2 := Ev.gcd_odd HG.out.1 hY0 hY1
        have hE : (Y : Int) / 2 ^ Lib.ctz 64 Y = (Ev.odd Y : Nat) := by rw [shr_nat]; rfl
        have HQ1 := Lib.hid q1
        have HG2 := Lib.hid hG2
        generalize Ev.odd Y = Y1 at *
        generalize Lib.ctz 64 Y = c3 at *
        clear q1 q2 hG2
        by_cases hlt : Y1 < X
        · go_wp2_with (go_at_call 175; (with_reducible refine T3.out.mono ?_); rintro e w' ⟨rfl, rfl⟩)
          go_round
          case rel =>
            have h1 := HG.out
            refine ⟨Y1, X - Y1, rfl, by go_num, by omega, by omega, q3, Lib.hid ⟨HQ1.out, ?_⟩⟩
            rw [Ev.gcd_sub (by omega), Nat.gcd_comm, ← HG2.out, h1.2]
          case measure => simp [intOf]; omega
        · go_wp2_with (go_at_call 175; (with_reducible refine T3.out.mono ?_); rintro e w' ⟨rfl, rfl⟩)
          go_round
          case rel =>
            have h1 := HG.out
            refine ⟨X, Y1 - X, rfl, by go_num, by omega, by omega, hX0, Lib.hid ⟨h1.1, ?_⟩⟩
            rw [Ev.gcd_sub (by omega), ← HG2.out, h1.2]
          case measure => simp [intOf]; omega
theorem fword_any (m : Nat) (w : World) (hm : m < 18446744073709551616) :
    Calls Tryz.prog 149 #[.int .u64 m] w (RetSl (wds m).length 1 ((wds m).map vs) w) := by
  by_cases h0 : m = 0
  · subst h0
    have hb : (((0 : Nat) : Int) == 0) = true := by decide
    go_enter Tryz.func149, Tryz.ntmps149
    go_wp2
    go_ret
    exact ⟨none, 0, rfl, Nat.le_refl _, Sl.nil _ _ _, Below.refl _ _⟩
  · have hb : ((m : Int) == 0) = false := by simp; omega
    have hw : Hid (wds m = [m]) := Lib.hid (by unfold wds; rw [if_neg h0])
    clear h0
    go_enter Tryz.func149, Tryz.ntmps149
    go_wp2
    go_ret
    rw [hw.out]
    refine ⟨some ⟨w.heap.size, 0, none⟩, 1, rfl, Nat.le_refl _, ⟨rfl, fun _ => ⟨_, rfl, by simp, ?_⟩⟩, (Below.refl _ _).alloc (Nat.le_refl _) _⟩
    intro j u hu
    rw [add_lit, Nat.zero_add, (Blk.new w 135 #[.int .u64 m]).cell j]
    simpa [vs] using hu
theorem div64_any (a b : Nat) (w : World) (ha : a < 18446744073709551616) (_hb : b < 18446744073709551616) (hb0 : b ≠ 0) :
    Calls Tryz.prog 176 #[.int .u64 0, .int .u64 a, .int .u64 b] w fun e w' => e = .returned (.tuple #[.int .u64 (a / b : Nat), .int .u64 (a % b : Nat)]) ∧ Below w.heap.size w w' := by
  have h1 : ((b : Int) == 0) = false := by simp; omega
  have h2 : decide ((b : Int) ≤ 0) = false := by simp; omega
  go_enter Tryz.func176, Tryz.ntmps176
  go_wp2
  go_quiet (fail)
  go_wp2
  go_ret2
  have e1 : IntKind.u64.wrap ((a : Int) / (b : Int)) = (a : Int) / (b : Int) := by
    have : (a : Int) / (b : Int) = ((a / b : Nat) : Int) := by simp
    rw [this]; exact wrap_nat _ (Nat.lt_of_le_of_lt (Nat.div_le_self _ _) ha)
  exact ⟨by simp [e1], below_drewN (Below.refl _ _) _⟩
theorem remw_any (A : Option Addr) (c a b : Nat) (w : World) (hA : Sets w A [a]) (ha : a < 18446744073709551616) (hb : b < 18446744073709551616) (hb0 : b ≠ 0) :
    Calls Tryz.prog 151 #[.slice A 1 c, .int .u64 b] w fun e w' => e = .returned (.int .u64 (a % b : Nat)) ∧ Below w.heap.size w w' := by
  obtain ⟨ad, rfl, hc⟩ := Sets.at hA (k := 0) (by simp)
  have hc0 : w.cell? ad = some (.int .u64 (a : Nat)) := by simpa [Addr.add] using hc
  clear hc
  go_enter Tryz.func151, Tryz.ntmps151
  go_wp2
  refine wp_loop_rounds 2 ?_
  rw [rounds_succ]
  go_wp2_with (go_at_call 176; refine (div64_any a b _ ha hb hb0).mono ?_; rintro e w1 ⟨rfl, hb1⟩)
  rw [rounds_succ]
  go_wp2
  go_ret
  exact ⟨rfl, hb1⟩
theorem nan64 (x : Nat) (w : World) : Calls Tryz.prog 187 #[.int .u64 x] w fun e w' => e = .returned (.bool false) ∧ w = w' := by
  go_enter Tryz.func187, Tryz.ntmps187
  go_wp2
  go_ret
  exact ⟨by simp, rfl⟩
/-- How two numbers compare. -/
def cmpN (a b : Nat) : Int := if a < b then -1 else if b < a then 1 else 0
theorem cmp64 (x y : Nat) (w : World) : Calls Tryz.prog 166 #[.int .u64 x, .int .u64 y] w fun e w' => e = .returned (.int .i64 (cmpN x y)) ∧ w = w' := by
  have go : ∀ z : Int, cmpN x y = z → Calls Tryz.prog 166 #[.int .u64 x, .int .u64 y] w fun e w' => e = .returned (.int .i64 z) ∧ w = w' := by
    intro z hz
    unfold cmpN at hz
    by_cases h1 : x < y
    · rw [if_pos h1] at hz
      subst hz
      go_enter Tryz.func166, Tryz.ntmps166
      go_wp2_with (go_at_call 187; refine (nan64 _ _).mono ?_; rintro e w' ⟨rfl, rfl⟩)
      go_ret
      exact ⟨rfl, rfl⟩
    · rw [if_neg h1] at hz
      by_cases h2 : y < x
      · rw [if_pos h2] at hz
        subst hz
        go_enter Tryz.func166, Tryz.ntmps166
        go_wp2_with (go_at_call 187; refine (nan64 _ _).mono ?_; rintro e w' ⟨rfl, rfl⟩)
        go_ret
        exact ⟨rfl, rfl⟩
      · rw [if_neg h2] at hz
        subst hz
        go_enter Tryz.func166, Tryz.ntmps166
        go_wp2_with (go_at_call 187; refine (nan64 _ _).mono ?_; rintro e w' ⟨rfl, rfl⟩)
        go_ret
        exact ⟨rfl, rfl⟩
  exact go _ rfl
end Go.Proofs.Tg
end
section
/- Walks: the greatest common divisor of two integers of one word; signs. -/
namespace Go.Proofs.Tg
open Go.RowKit Go.Qn Go.Gr
set_option maxHeartbeats 1000000
set_option maxRecDepth 100000
theorem Sets.one {w : World} {A : Option Addr} {a : Nat} (h : Sets w A [a]) : ∃ ad, A = some ad ∧ w.cell? ad = some (.int .u64 (a : Nat)) ∧ ad.block < w.heap.size := by
  obtain ⟨ad, rfl, hc⟩ := Sets.at h (k := 0) (by simp)
  have hc0 : w.cell? ad = some (.int .u64 (a : Nat)) := by simpa [Addr.add] using hc
  exact ⟨ad, rfl, hc0, World.block_lt_of_cell? w ad hc0⟩
theorem cmpw_any (A B : Option Addr) (c d a b : Nat) (w : World) (hA : Sets w A [a]) (hB : Sets w B [b]) :
    Calls Tryz.prog 138 #[.slice A 1 c, .slice B 1 d] w fun e w' => e = .returned (.int .i64 (cmpN a b)) ∧ Below w.heap.size w w' := by
  obtain ⟨ad, rfl, h1, _⟩ := hA.one
  obtain ⟨bd, rfl, h2, _⟩ := hB.one
  clear hA hB
  by_cases hab : a = b
  · subst hab
    have hc : cmpN a a = 0 := by unfold cmpN; simp
    have HC := Lib.hid hc
    clear hc
    have hb : (((a : Nat) : Int) != (a : Int)) = false := by simp
    go_enter Tryz.func138, Tryz.ntmps138
    go_wp2
    refine wp_loop_rounds 2 ?_
    rw [rounds_succ]
    go_wp2
    go_quiet (fail)
    go_wp2
    rw [rounds_succ]
    go_wp2
    go_ret
    exact ⟨by rw [HC.out]; rfl, below_drewN (Below.refl _ _) _⟩
  · have hb : (((a : Nat) : Int) != (b : Int)) = true := by simp; omega
    have HC := Lib.hid (fun W => cmp64 a b W)
    clear hab
    generalize cmpN a b = z at *
    go_enter Tryz.func138, Tryz.ntmps138
    go_wp2
    refine wp_loop_rounds 1 ?_
    rw [rounds_succ]
    go_wp2
    go_quiet (fail)
    go_wp2
    have k1 : (w.drewN nq).cell? ad = some (.int .u64 (a : Nat)) := h1
    have k2 : (w.drewN nq).cell? bd = some (.int .u64 (b : Nat)) := h2
    have hbW : Below w.heap.size w (w.drewN nq) := below_drewN (Below.refl _ _) _
    generalize w.drewN nq = W at *
    go_quiet ((go_at_call 166; exact quiet_sm (HC.out _)))
    go_wp2
    go_ret
    exact ⟨rfl, below_drewN hbW _⟩
theorem clone_any (ad : Addr) (c a : Nat) (w : World) (hA : w.cell? ad = some (.int .u64 (a : Nat))) :
    Calls Tryz.prog 144 #[.slice (some ad) 1 c] w (RetSl 1 1 [.int .u64 a] w) := by
  obtain ⟨i0, hi, hz0, hz1, hz2⟩ := info_parts info135
  have hn : ∀ W : World, (binOp BinOp.eql 120 (.slice (some ad) 1 c) (.slice none 0 0)).run Tryz.prog W = .ok (.bool false) W := fun W => Lib.run_eql_slice_nil W _ _ _ _ _ _ _ Tryz.underlying120
  go_enter Tryz.func144, Tryz.ntmps144
  have hnew : ∀ j u, [Value.int .u64 (a : Nat)][j]? = some u → (w.alloc (.cells #[] 135)).cell? (ad.add j) = some u := by
    intro j u hu
    match j with
    | 0 =>
      have e : u = .int .u64 (a : Nat) := by simpa using hu.symm
      subst e
      exact cell_alloc hA _
    | j + 1 => simp at hu
  have HN := Lib.hid hnew
  clear hnew
  go_wp2_with (at_builtin; refine wpList_append_own _ rfl _ _ 120 rfl w.heap.size 135 i0 (.int .u64 0) 1 8 Tryz.underlying120 hi hz0 hz1 hz2 rfl (by decide) (.slice (some ⟨w.heap.size, 0, none⟩) 0 0) 0 [] rfl (World.ownsRow_made w #[] 0 (Nat.le_refl _) (by simp [maxLen]) rfl) ad 1 c [.int .u64 a] rfl rfl HN.out ?c2 ?c3 ?c4 ?c5 ?_
               case c2 => simp [Value.oneCell']
               case c3 => simp only [maxLen]; omega
               case c4 => omega
               case c5 => simp
               intro v' w2 hown' hgrow _)
  go_ret
  obtain ⟨A, c2, hv, hc2, hS⟩ := Sl.of_own hown'
  refine ⟨A, c2, by show Ending.returned v' = _; rw [hv], hc2, by simpa using hS, ?_⟩
  exact ((Below.refl _ _).alloc (Nat.le_refl _) _).grown hgrow (by simp) (fun k hk => by simp [Value.ownBlock] at hk; omega)
/-- Both numbers have one word. -/
theorem gcds_any (A B : Option Addr) (c d a b : Nat) (w : World) (hA : Sets w A [a]) (hB : Sets w B [b]) (ha : a < 18446744073709551616) (hb : b < 18446744073709551616) (hb0 : b ≠ 0) (hT : Tab w) (z : Int) (hz : cmpN a b = z) (hz0 : 0 ≤ z) :
    Calls Tryz.prog 120 #[.slice A 1 c, .slice B 1 d] w (RetSl (wds (Nat.gcd a b)).length 1 ((wds (Nat.gcd a b)).map vs) w) := by
  have HC : Hid (∀ W, Below w.heap.size w W → Calls Tryz.prog 138 #[.slice A 1 c, .slice B 1 d] W fun e w' => e = .returned (.int .i64 z) ∧ Below W.heap.size W w') := Lib.hid (fun W h => by
    rw [← hz]; exact cmpw_any A B c d a b W (hA.keep h) (hB.keep h))
  clear hz
  have hzb : decide (z < 0) = false := by simp; omega
  go_enter Tryz.func120, Tryz.ntmps120
  go_wp2_with (go_at_call 138; refine (HC.out _ (Below.refl _ _)).mono ?_; rintro e w1 ⟨rfl, hb1⟩)
  obtain ⟨ad, rfl, k1, _⟩ := Sets.one (Sl.keep hA hb1)
  obtain ⟨bd, rfl, k2, _⟩ := Sets.one (Sl.keep hB hb1)
  refine (clone_any ad c a w1 k1).mono ?_
  rintro e w2 ⟨A1, c1, rfl, _, hS1, hb2⟩
  have k2' := keep_cell hb2 k2
  go_wp2_with (go_at_call 144; refine (clone_any bd d b w2 k2').mono ?_; rintro e w3 ⟨B1, d1, rfl, _, hS2, hb3⟩)
  refine wp_loop_rounds 1 ?_
  rw [rounds_succ]
  have hA3 : Sets w3 A1 [a] := Sl.keep hS1 hb3
  have hB3 : Sets w3 B1 [b] := hS2
  have hbw : Below w.heap.size w w3 := below_all (below_all hb1 hb2) hb3
  obtain ⟨be, rfl, k4, _⟩ := hB3.one
  have hT3 : Tab w3 := hT.below hbw hT.1
  have hz3 := hbw.size
  clear hS1 hS2 hb2 hb3 k2 k2' k1 hb1 hA hB hT HC
  obtain ⟨r, hr⟩ : ∃ r, a % b = r := ⟨_, rfl⟩
  have hg : Nat.gcd a b = Nat.gcd b r := by rw [← hr, Nat.gcd_comm, Nat.gcd_rec, Nat.gcd_comm]
  have hrl : r < 18446744073709551616 := by rw [← hr]; exact Nat.lt_of_le_of_lt (Nat.mod_le _ _) ha
  have hgl : Nat.gcd b r < 18446744073709551616 := by rw [← hg]; exact Nat.lt_of_le_of_lt (Nat.gcd_le_right _ (by omega)) hb
  have K1 : Hid (∀ W, Below w3.heap.size w3 W → Calls Tryz.prog 151 #[.slice A1 1 c1, .int .u64 b] W fun e w' => e = .returned (.int .u64 (r : Nat)) ∧ Below w3.heap.size w3 w') := Lib.hid (fun W h => by
    rw [← hr]; exact (remw_any A1 c1 a b W (hA3.keep h) ha hb hb0).mono fun e w' ⟨h1, h2⟩ => ⟨h1, below_all h h2⟩)
  have K2 : Hid (∀ W, Below w3.heap.size w3 W → Calls Tryz.prog 150 #[.int .u64 b, .int .u64 (r : Nat)] W fun e w' => e = .returned (.int .u64 (Nat.gcd b r : Nat)) ∧ Below w3.heap.size w3 w') := Lib.hid (fun W h => 
    (gword_any b r W hb hrl hb0 (hT3.below h hT3.1)).mono fun e w' ⟨h1, h2⟩ => ⟨h1, h2 ▸ h⟩)
  have HG := Lib.hid hg
  clear hg hr
  generalize Nat.gcd b r = g at *
  have K3 : Hid (∀ W, Below w3.heap.size w3 W → Calls Tryz.prog 149 #[.int .u64 (g : Nat)] W fun e w' => ∃ A c, e = .returned (.slice A (wds g).length c) ∧ (wds g).length ≤ c ∧ Sl w' A (wds g).length 1 ((wds g).map vs) ∧ Below w3.heap.size w3 w') := Lib.hid (fun W h => 
    (fword_any g W hgl).mono fun e w' ⟨A, c, h1, h2, h3, h4⟩ => ⟨A, c, h1, h2, h3, below_all h h4⟩)
  go_wp2
  have he : Below w3.heap.size w3 w3.drew := (Below.refl _ _).drew
  go_region_held3 (fun w' => w'.cell? be = some (.int .u64 (b : Nat))) (first | go_keep | exact keep_cell hbe k4)
    (first
      | (go_at_call 151; refine (K1.out _ (by assumption)).mono ?_; rintro e w' ⟨rfl, hbe⟩)
      | (go_at_call 150; refine (K2.out _ (by assumption)).mono ?_; rintro e w' ⟨rfl, hbe⟩)
      | (go_at_call 149; refine (K3.out _ (by assumption)).mono ?_; rintro e w' ⟨A2, c2, rfl, hl2, hs2, hbe⟩))
  all_goals
    go_wp2
    go_ret
    rw [HG.out]
    exact ⟨A2, c2, rfl, hl2, hs2, below_all hbw hbe⟩
/-- Both numbers have one word. -/
theorem gcds_lt (A B : Option Addr) (c d a b : Nat) (w : World) (hA : Sets w A [a]) (hB : Sets w B [b]) (ha : a < 18446744073709551616) (hb : b < 18446744073709551616) (ha0 : a ≠ 0) (hT : Tab w) (z : Int) (hz : cmpN a b = z) (hz0 : z < 0) :
    Calls Tryz.prog 120 #[.slice A 1 c, .slice B 1 d] w (RetSl (wds (Nat.gcd a b)).length 1 ((wds (Nat.gcd a b)).map vs) w) := by
  have HC : Hid (∀ W, Below w.heap.size w W → Calls Tryz.prog 138 #[.slice A 1 c, .slice B 1 d] W fun e w' => e = .returned (.int .i64 z) ∧ Below W.heap.size W w') := Lib.hid (fun W h => by
    rw [← hz]; exact cmpw_any A B c d a b W (hA.keep h) (hB.keep h))
  clear hz
  have hzb : decide (z < 0) = true := by simp; omega
  go_enter Tryz.func120, Tryz.ntmps120
  go_wp2_with (go_at_call 138; refine (HC.out _ (Below.refl _ _)).mono ?_; rintro e w1 ⟨rfl, hb1⟩)
  obtain ⟨ad, rfl, k1, _⟩ := Sets.one (Sl.keep hA hb1)
  obtain ⟨bd, rfl, k2, _⟩ := Sets.one (Sl.keep hB hb1)
  refine (clone_any bd d b w1 k2).mono ?_
  rintro e w2 ⟨A1, c1, rfl, _, hS1, hb2⟩
  have k1' := keep_cell hb2 k1
  go_wp2_with (go_at_call 144; refine (clone_any ad c a w2 k1').mono ?_; rintro e w3 ⟨B1, d1, rfl, _, hS2, hb3⟩)
  refine wp_loop_rounds 1 ?_
  rw [rounds_succ]
  have hA3 : Sets w3 A1 [b] := Sl.keep hS1 hb3
  have hB3 : Sets w3 B1 [a] := hS2
  have hbw : Below w.heap.size w w3 := below_all (below_all hb1 hb2) hb3
  obtain ⟨be, rfl, k4, _⟩ := hB3.one
  have hT3 : Tab w3 := hT.below hbw hT.1
  have hz3 := hbw.size
  clear hS1 hS2 hb2 hb3 k1 k1' k2 hb1 hA hB hT HC
  obtain ⟨r, hr⟩ : ∃ r, b % a = r := ⟨_, rfl⟩
  have hg : Nat.gcd a b = Nat.gcd a r := by rw [← hr, Nat.gcd_rec, Nat.gcd_comm]
  have hrl : r < 18446744073709551616 := by rw [← hr]; exact Nat.lt_of_le_of_lt (Nat.mod_le _ _) hb
  have hgl : Nat.gcd a r < 18446744073709551616 := by rw [← hg]; exact Nat.lt_of_le_of_lt (Nat.gcd_le_left _ (by omega)) ha
  have K1 : Hid (∀ W, Below w3.heap.size w3 W → Calls Tryz.prog 151 #[.slice A1 1 c1, .int .u64 a] W fun e w' => e = .returned (.int .u64 (r : Nat)) ∧ Below w3.heap.size w3 w') := Lib.hid (fun W h => by
    rw [← hr]; exact (remw_any A1 c1 b a W (hA3.keep h) hb ha ha0).mono fun e w' ⟨h1, h2⟩ => ⟨h1, below_all h h2⟩)
  have K2 : Hid (∀ W, Below w3.heap.size w3 W → Calls Tryz.prog 150 #[.int .u64 a, .int .u64 (r : Nat)] W fun e w' => e = .returned (.int .u64 (Nat.gcd a r : Nat)) ∧ Below w3.heap.size w3 w') := Lib.hid (fun W h => 
    (gword_any a r W ha hrl ha0 (hT3.below h hT3.1)).mono fun e w' ⟨h1, h2⟩ => ⟨h1, h2 ▸ h⟩)
  have HG := Lib.hid hg
  clear hg hr
  generalize Nat.gcd a r = g at *
  have K3 : Hid (∀ W, Below w3.heap.size w3 W → Calls Tryz.prog 149 #[.int .u64 (g : Nat)] W fun e w' => ∃ A d, e = .returned (.slice A (wds g).length d) ∧ (wds g).length ≤ d ∧ Sl w' A (wds g).length 1 ((wds g).map vs) ∧ Below w3.heap.size w3 w') := Lib.hid (fun W h => 
    (fword_any g W hgl).mono fun e w' ⟨A, d, h1, h2, h3, h4⟩ => ⟨A, d, h1, h2, h3, below_all h h4⟩)
  go_wp2
  have he : Below w3.heap.size w3 w3.drew := (Below.refl _ _).drew
  go_region_held3 (fun w' => w'.cell? be = some (.int .u64 (a : Nat))) (first | go_keep | exact keep_cell hbe k4)
    (first
      | (go_at_call 151; refine (K1.out _ (by assumption)).mono ?_; rintro e w' ⟨rfl, hbe⟩)
      | (go_at_call 150; refine (K2.out _ (by assumption)).mono ?_; rintro e w' ⟨rfl, hbe⟩)
      | (go_at_call 149; refine (K3.out _ (by assumption)).mono ?_; rintro e w' ⟨A2, c2, rfl, hl2, hs2, hbe⟩))
  all_goals
    go_wp2
    go_ret
    rw [HG.out]
    exact ⟨A2, c2, rfl, hl2, hs2, below_all hbw hbe⟩
theorem gcdw_any (A B : Option Addr) (c d a b : Nat) (w : World) (hA : Sets w A [a]) (hB : Sets w B [b]) (ha : a < 18446744073709551616) (hb : b < 18446744073709551616) (ha0 : a ≠ 0) (hb0 : b ≠ 0) (hT : Tab w) :
    Calls Tryz.prog 120 #[.slice A 1 c, .slice B 1 d] w (RetSl (wds (Nat.gcd a b)).length 1 ((wds (Nat.gcd a b)).map vs) w) := by
  by_cases h : a < b
  · exact gcds_lt A B c d a b w hA hB ha hb ha0 hT _ rfl (by unfold cmpN; rw [if_pos h]; decide)
  · refine gcds_any A B c d a b w hA hB ha hb hb0 hT _ rfl ?_
    unfold cmpN; rw [if_neg h]; split <;> decide
end Go.Proofs.Tg
end
