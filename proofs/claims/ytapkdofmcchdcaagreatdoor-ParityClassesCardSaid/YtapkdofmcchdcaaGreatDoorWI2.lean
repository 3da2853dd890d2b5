/- Walks: the greatest common divisor of two words. -/
import Derived.Test.YtapkdofmcchdcaaGreatDoorWI1
import Derived.Test.YtapkdofmcchdcaaGreatDoorWA
import Derived.Test.YtapkdofmcchdcaaGreatDoorG1
import Derived.StillTailTactics
namespace Go.Proofs.Tg
open Go.RowKit Go.Qn Go.Gr
set_option maxHeartbeats 1000000
set_option maxRecDepth 100000
theorem shr_nat (x k : Nat) : (x : Int) / 2 ^ k = ((x / 2 ^ k : Nat) : Int) := by simp
theorem gword_any (x y : Nat) (w : World) (hx : x < 18446744073709551616) (hy : y < 18446744073709551616) (hx0 : x ≠ 0) (hT : Tab w) :
    Calls Tryz.prog 209 #[.int .u64 x, .int .u64 y] w fun e w' => e = .returned (.int .u64 (Nat.gcd x y : Nat)) ∧ w = w' := by
  have hxb : ((x : Int) == 0) = false := by simp; omega
  by_cases hy0 : y = 0
  · subst hy0
    have hyb : (((0 : Nat) : Int) == 0) = true := by decide
    go_enter Tryz.func209, Tryz.ntmps209
    go_wp2
    go_ret
    refine ⟨?_, rfl⟩
    have e := u64_or_nat x 0 hx (by omega)
    rw [Nat.or_zero] at e
    rw [Nat.gcd_zero_right]
    exact congrArg (fun z => Ending.returned (.int .u64 z)) e
  · have hyb : ((y : Int) == 0) = false := by simp; omega
    have hor : x ||| y < 18446744073709551616 := Nat.or_lt_two_pow (n := 64) hx hy
    have hor0 : x ||| y ≠ 0 := fun e => hx0 (Nat.le_zero.1 (e ▸ Nat.left_le_or))
    obtain ⟨G, hk⟩ := Ev.gcd_two hx0 hy0 hx hy
    obtain ⟨o1, o2, o3, o4, o5⟩ := Ev.odd_spec hx0 hx
    have T1 : Hid (Calls Tryz.prog 119 #[.int .u64 (bits BinOp.or IntKind.u64 (x : Int) (y : Int))] w fun e w' => e = .returned (.int .i64 (Lib.ctz 64 (x ||| y) : Nat)) ∧ w = w') := Lib.hid (by
      rw [u64_or_nat x y hx hy]; exact tz_any _ w hor hor0 hT)
    have T2 := Lib.hid (tz_any x w hx hx0 hT)
    have hX : Hid ((x : Int) / 2 ^ Lib.ctz 64 x = (Ev.odd x : Nat)) := Lib.hid (by rw [shr_nat]; rfl)
    have hG : Hid (Nat.gcd x y = Nat.gcd (Ev.odd x) y * 2 ^ Lib.ctz 64 (x ||| y)) := Lib.hid G
    have HO1 := Lib.hid o1
    generalize Ev.odd x = x1 at *
    generalize Lib.ctz 64 x = c1 at *
    generalize Lib.ctz 64 (x ||| y) = c2 at *
    clear G o1 o2 hor0
    go_enter Tryz.func209, Tryz.ntmps209
    go_wp2_with (first
      | (go_at_call 119; (with_reducible refine T1.out.mono ?_); rintro e w' ⟨rfl, rfl⟩)
      | (go_at_call 119; (with_reducible refine T2.out.mono ?_); rintro e w' ⟨rfl, rfl⟩))
    have hgl : Nat.gcd x y ≤ x := Nat.gcd_le_left y (by omega)
    go_loop [0, 1] (fun a b => ∃ X Y : Nat, a = .int .u64 X ∧ b = .int .u64 Y ∧ X < 18446744073709551616 ∧ Y < 18446744073709551616 ∧ 0 < X ∧ Hid (X % 2 = 1 ∧ Nat.gcd X Y = Nat.gcd x1 y)) (fun a b => (intOf a).toNat + (intOf b).toNat)
    case atStart => exact ⟨x1, y, by rw [hX.out], rfl, by omega, hy, o3, Lib.hid ⟨HO1.out, rfl⟩⟩
    case round =>
      obtain ⟨X, Y, rfl, rfl, hX1, hY1, hX0, HG⟩ := hrel
      by_cases hY0 : Y = 0
      · subst hY0
        have hb : (((0 : Nat) : Int) != 0) = false := by decide
        have e : X = Nat.gcd x1 y := by rw [← HG.out.2, Nat.gcd_zero_right]
        have hm : X * 2 ^ c2 = Nat.gcd x y := by rw [hG.out, e]
        have HM := Lib.hid hm
        clear e hm
        go_wp2
        go_ret
        refine ⟨?_, rfl⟩
        show Ending.returned (.int .u64 (IntKind.u64.wrap ((X : Int) * 2 ^ c2))) = _
        have e2 : (X : Int) * 2 ^ c2 = ((X * 2 ^ c2 : Nat) : Int) := by simp
        rw [e2, HM.out, wrap_nat _ (by omega)]
      · have hb : ((Y : Int) != 0) = true := by simp; omega
        obtain ⟨q1, q2, q3, q4, q5⟩ := Ev.odd_spec hY0 hY1
        have T3 := Lib.hid (tz_any Y w hY1 hY0 hT)
        have hG2 := Ev.gcd_odd HG.out.1 hY0 hY1
        have hE : (Y : Int) / 2 ^ Lib.ctz 64 Y = (Ev.odd Y : Nat) := by rw [shr_nat]; rfl
        have HQ1 := Lib.hid q1
        have HG2 := Lib.hid hG2
        generalize Ev.odd Y = Y1 at *
        generalize Lib.ctz 64 Y = c3 at *
        clear q1 q2 hG2
        by_cases hlt : Y1 < X
        · go_wp2_with (go_at_call 119; (with_reducible refine T3.out.mono ?_); rintro e w' ⟨rfl, rfl⟩)
          go_round
          case rel =>
            have h1 := HG.out
            refine ⟨Y1, X - Y1, rfl, by go_num, by omega, by omega, q3, Lib.hid ⟨HQ1.out, ?_⟩⟩
            rw [Ev.gcd_sub (by omega), Nat.gcd_comm, ← HG2.out, h1.2]
          case measure => simp [intOf]; omega
        · go_wp2_with (go_at_call 119; (with_reducible refine T3.out.mono ?_); rintro e w' ⟨rfl, rfl⟩)
          go_round
          case rel =>
            have h1 := HG.out
            refine ⟨X, Y1 - X, rfl, by go_num, by omega, by omega, hX0, Lib.hid ⟨h1.1, ?_⟩⟩
            rw [Ev.gcd_sub (by omega), ← HG2.out, h1.2]
          case measure => simp [intOf]; omega
theorem fword_any (m : Nat) (w : World) (hm : m < 18446744073709551616) :
    Calls Tryz.prog 208 #[.int .u64 m] w (RetSl (wds m).length 1 ((wds m).map vs) w) := by
  by_cases h0 : m = 0
  · subst h0
    have hb : (((0 : Nat) : Int) == 0) = true := by decide
    go_enter Tryz.func208, Tryz.ntmps208
    go_wp2
    go_ret
    exact ⟨none, 0, rfl, Nat.le_refl _, Sl.nil _ _ _, Below.refl _ _⟩
  · have hb : ((m : Int) == 0) = false := by simp; omega
    have hw : Hid (wds m = [m]) := Lib.hid (by unfold wds; rw [if_neg h0])
    clear h0
    go_enter Tryz.func208, Tryz.ntmps208
    go_wp2
    go_ret
    rw [hw.out]
    refine ⟨some ⟨w.heap.size, 0, none⟩, 1, rfl, Nat.le_refl _, ⟨rfl, fun _ => ⟨_, rfl, by simp, ?_⟩⟩, (Below.refl _ _).alloc (Nat.le_refl _) _⟩
    intro j u hu
    rw [add_lit, Nat.zero_add, (Blk.new w 121 #[.int .u64 m]).cell j]
    simpa [vs] using hu
theorem div64_any (a b : Nat) (w : World) (ha : a < 18446744073709551616) (hb : b < 18446744073709551616) (hb0 : b ≠ 0) :
    Calls Tryz.prog 231 #[.int .u64 0, .int .u64 a, .int .u64 b] w fun e w' => e = .returned (.tuple #[.int .u64 (a / b : Nat), .int .u64 (a % b : Nat)]) ∧ Below w.heap.size w w' := by
  have h1 : ((b : Int) == 0) = false := by simp; omega
  have h2 : decide ((b : Int) ≤ 0) = false := by simp; omega
  go_enter Tryz.func231, Tryz.ntmps231
  go_wp2
  go_quiet (fail)
  go_wp2
  go_ret2
  have e1 : IntKind.u64.wrap ((a : Int) / (b : Int)) = (a : Int) / (b : Int) := by
    have : (a : Int) / (b : Int) = ((a / b : Nat) : Int) := by simp
    rw [this]; exact wrap_nat _ (Nat.lt_of_le_of_lt (Nat.div_le_self _ _) ha)
  exact ⟨by simp [e1], below_drewN (Below.refl _ _) _⟩
theorem remw_any (A : Option Addr) (c a b : Nat) (w : World) (hA : Sets w A [a]) (ha : a < 18446744073709551616) (hb : b < 18446744073709551616) (hb0 : b ≠ 0) :
    Calls Tryz.prog 210 #[.slice A 1 c, .int .u64 b] w fun e w' => e = .returned (.int .u64 (a % b : Nat)) ∧ Below w.heap.size w w' := by
  obtain ⟨ad, rfl, hc⟩ := Sets.at hA (k := 0) (by simp)
  have hc0 : w.cell? ad = some (.int .u64 (a : Nat)) := by simpa [Addr.add] using hc
  clear hc
  go_enter Tryz.func210, Tryz.ntmps210
  go_wp2
  refine wp_loop_rounds 2 ?_
  rw [rounds_succ]
  go_wp2_with (go_at_call 231; refine (div64_any a b _ ha hb hb0).mono ?_; rintro e w1 ⟨rfl, hb1⟩)
  rw [rounds_succ]
  go_wp2
  go_ret
  exact ⟨rfl, hb1⟩
theorem nan64 (x : Nat) (w : World) : Calls Tryz.prog 237 #[.int .u64 x] w fun e w' => e = .returned (.bool false) ∧ w = w' := by
  go_enter Tryz.func237, Tryz.ntmps237
  go_wp2
  go_ret
  exact ⟨by simp, rfl⟩
/-- How two numbers compare. -/
def cmpN (a b : Nat) : Int := if a < b then -1 else if b < a then 1 else 0
theorem cmp64 (x y : Nat) (w : World) : Calls Tryz.prog 225 #[.int .u64 x, .int .u64 y] w fun e w' => e = .returned (.int .i64 (cmpN x y)) ∧ w = w' := by
  have go : ∀ z : Int, cmpN x y = z → Calls Tryz.prog 225 #[.int .u64 x, .int .u64 y] w fun e w' => e = .returned (.int .i64 z) ∧ w = w' := by
    intro z hz
    unfold cmpN at hz
    by_cases h1 : x < y
    · rw [if_pos h1] at hz
      subst hz
      go_enter Tryz.func225, Tryz.ntmps225
      go_wp2_with (go_at_call 237; refine (nan64 _ _).mono ?_; rintro e w' ⟨rfl, rfl⟩)
      go_ret
      exact ⟨rfl, rfl⟩
    · rw [if_neg h1] at hz
      by_cases h2 : y < x
      · rw [if_pos h2] at hz
        subst hz
        go_enter Tryz.func225, Tryz.ntmps225
        go_wp2_with (go_at_call 237; refine (nan64 _ _).mono ?_; rintro e w' ⟨rfl, rfl⟩)
        go_ret
        exact ⟨rfl, rfl⟩
      · rw [if_neg h2] at hz
        subst hz
        go_enter Tryz.func225, Tryz.ntmps225
        go_wp2_with (go_at_call 237; refine (nan64 _ _).mono ?_; rintro e w' ⟨rfl, rfl⟩)
        go_ret
        exact ⟨rfl, rfl⟩
  exact go _ rfl
end Go.Proofs.Tg
