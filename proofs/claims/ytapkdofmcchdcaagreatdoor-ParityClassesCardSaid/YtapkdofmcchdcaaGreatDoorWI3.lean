/- Walks: the greatest common divisor of two integers of one word; signs. -/
import Derived.Test.YtapkdofmcchdcaaGreatDoorWI2
import Derived.Deep.RegionHeld3
namespace Go.Proofs.Tg
open Go.RowKit Go.Qn Go.Gr
set_option maxHeartbeats 1000000
set_option maxRecDepth 100000
theorem Sets.one {w : World} {A : Option Addr} {a : Nat} (h : Sets w A [a]) : ∃ ad, A = some ad ∧ w.cell? ad = some (.int .u64 (a : Nat)) ∧ ad.block < w.heap.size := by
  obtain ⟨ad, rfl, hc⟩ := Sets.at h (k := 0) (by simp)
  have hc0 : w.cell? ad = some (.int .u64 (a : Nat)) := by simpa [Addr.add] using hc
  exact ⟨ad, rfl, hc0, World.block_lt_of_cell? w ad hc0⟩
theorem Sets.mk1 {w : World} {ad : Addr} {a : Nat} (h : w.cell? ad = some (.int .u64 (a : Nat))) : Sets w (some ad) [a] :=
  ⟨rfl, fun _ => ⟨ad, rfl, World.block_lt_of_cell? w ad h, fun j u hu => by
    match j with
    | 0 =>
      have e : u = .int .u64 (a : Nat) := by simpa [vs] using hu.symm
      subst e
      exact h
    | j + 1 => simp at hu⟩⟩
theorem cmpw_any (A B : Option Addr) (c d a b : Nat) (w : World) (hA : Sets w A [a]) (hB : Sets w B [b]) :
    Calls Tryz.prog 202 #[.slice A 1 c, .slice B 1 d] w fun e w' => e = .returned (.int .i64 (cmpN a b)) ∧ Below w.heap.size w w' := by
  obtain ⟨ad, rfl, h1, _⟩ := hA.one
  obtain ⟨bd, rfl, h2, _⟩ := hB.one
  clear hA hB
  by_cases hab : a = b
  · subst hab
    have hc : cmpN a a = 0 := by unfold cmpN; simp
    have HC := Lib.hid hc
    clear hc
    have hb : (((a : Nat) : Int) != (a : Int)) = false := by simp
    go_enter Tryz.func202, Tryz.ntmps202
    go_wp2
    refine wp_loop_rounds 2 ?_
    rw [rounds_succ]
    go_wp2
    go_quiet (fail)
    go_wp2
    rw [rounds_succ]
    go_wp2
    go_ret
    exact ⟨by rw [HC.out]; rfl, below_drewN (Below.refl _ _) _⟩
  · have hb : (((a : Nat) : Int) != (b : Int)) = true := by simp; omega
    have HC := Lib.hid (fun W => cmp64 a b W)
    clear hab
    generalize cmpN a b = z at *
    go_enter Tryz.func202, Tryz.ntmps202
    go_wp2
    refine wp_loop_rounds 1 ?_
    rw [rounds_succ]
    go_wp2
    go_quiet (fail)
    go_wp2
    have k1 : (w.drewN nq).cell? ad = some (.int .u64 (a : Nat)) := h1
    have k2 : (w.drewN nq).cell? bd = some (.int .u64 (b : Nat)) := h2
    have hbW : Below w.heap.size w (w.drewN nq) := below_drewN (Below.refl _ _) _
    generalize w.drewN nq = W at *
    go_quiet ((go_at_call 225; exact quiet_sm (HC.out _)))
    go_wp2
    go_ret
    exact ⟨rfl, below_drewN hbW _⟩
theorem clone_any (ad : Addr) (c a : Nat) (w : World) (hA : w.cell? ad = some (.int .u64 (a : Nat))) :
    Calls Tryz.prog 203 #[.slice (some ad) 1 c] w (RetSl 1 1 [.int .u64 a] w) := by
  obtain ⟨i0, hi, hz0, hz1, hz2⟩ := info_parts info121
  have hn : ∀ W : World, (binOp BinOp.eql 209 (.slice (some ad) 1 c) (.slice none 0 0)).run Tryz.prog W = .ok (.bool false) W := fun W => Lib.run_eql_slice_nil W _ _ _ _ _ _ _ Tryz.underlying209
  go_enter Tryz.func203, Tryz.ntmps203
  have hnew : ∀ j u, [Value.int .u64 (a : Nat)][j]? = some u → (w.alloc (.cells #[] 121)).cell? (ad.add j) = some u := by
    intro j u hu
    match j with
    | 0 =>
      have e : u = .int .u64 (a : Nat) := by simpa using hu.symm
      subst e
      exact cell_alloc hA _
    | j + 1 => simp at hu
  have HN := Lib.hid hnew
  clear hnew
  go_wp2_with (at_builtin; refine wpList_append_own _ rfl _ _ 209 rfl w.heap.size 121 i0 (.int .u64 0) 1 8 Tryz.underlying209 hi hz0 hz1 hz2 rfl (by decide) (.slice (some ⟨w.heap.size, 0, none⟩) 0 0) 0 [] rfl (World.ownsRow_made w #[] 0 (Nat.le_refl _) (by simp [maxLen]) rfl) ad 1 c [.int .u64 a] rfl rfl HN.out ?c2 ?c3 ?c4 ?c5 ?_
               case c2 => simp [Value.oneCell']
               case c3 => simp only [maxLen]; omega
               case c4 => omega
               case c5 => simp
               intro v' w2 hown' hgrow _)
  go_ret
  obtain ⟨A, c2, hv, hc2, hS⟩ := Sl.of_own hown'
  refine ⟨A, c2, by show Ending.returned v' = _; rw [hv], hc2, by simpa using hS, ?_⟩
  exact ((Below.refl _ _).alloc (Nat.le_refl _) _).grown hgrow (by simp) (fun k hk => by simp [Value.ownBlock] at hk; omega)
theorem sl_one {w : World} {A : Option Addr} {a : Nat} (h : Sl w A 1 1 [.int .u64 (a : Nat)]) : Sets w A [a] := h
/-- Both numbers have one word. -/
theorem gcds_any (A B : Option Addr) (c d a b : Nat) (w : World) (hA : Sets w A [a]) (hB : Sets w B [b]) (ha : a < 18446744073709551616) (hb : b < 18446744073709551616) (hb0 : b ≠ 0) (hT : Tab w) (z : Int) (hz : cmpN a b = z) (hz0 : 0 ≤ z) :
    Calls Tryz.prog 184 #[.slice A 1 c, .slice B 1 d] w (RetSl (wds (Nat.gcd a b)).length 1 ((wds (Nat.gcd a b)).map vs) w) := by
  have HC : Hid (∀ W, Below w.heap.size w W → Calls Tryz.prog 202 #[.slice A 1 c, .slice B 1 d] W fun e w' => e = .returned (.int .i64 z) ∧ Below W.heap.size W w') := Lib.hid (fun W h => by
    rw [← hz]; exact cmpw_any A B c d a b W (hA.keep h) (hB.keep h))
  clear hz
  have hzb : decide (z < 0) = false := by simp; omega
  go_enter Tryz.func184, Tryz.ntmps184
  go_wp2_with (go_at_call 202; refine (HC.out _ (Below.refl _ _)).mono ?_; rintro e w1 ⟨rfl, hb1⟩)
  obtain ⟨ad, rfl, k1, _⟩ := Sets.one (Sl.keep hA hb1)
  obtain ⟨bd, rfl, k2, _⟩ := Sets.one (Sl.keep hB hb1)
  refine (clone_any ad c a w1 k1).mono ?_
  rintro e w2 ⟨A1, c1, rfl, _, hS1, hb2⟩
  have k2' := keep_cell hb2 k2
  go_wp2_with (go_at_call 203; refine (clone_any bd d b w2 k2').mono ?_; rintro e w3 ⟨B1, d1, rfl, _, hS2, hb3⟩)
  refine wp_loop_rounds 1 ?_
  rw [rounds_succ]
  have hA3 : Sets w3 A1 [a] := Sl.keep hS1 hb3
  have hB3 : Sets w3 B1 [b] := hS2
  have hbw : Below w.heap.size w w3 := below_all (below_all hb1 hb2) hb3
  obtain ⟨be, rfl, k4, _⟩ := hB3.one
  have hT3 : Tab w3 := hT.below hbw hT.1
  have hz3 := hbw.size
  clear hS1 hS2 hb2 hb3 k2 k2' k1 hb1 hA hB hT HC
  obtain ⟨r, hr⟩ : ∃ r, a % b = r := ⟨_, rfl⟩
  have hg : Nat.gcd a b = Nat.gcd b r := by rw [← hr, Nat.gcd_comm, Nat.gcd_rec, Nat.gcd_comm]
  have hrl : r < 18446744073709551616 := by rw [← hr]; exact Nat.lt_of_le_of_lt (Nat.mod_le _ _) ha
  have hgl : Nat.gcd b r < 18446744073709551616 := by rw [← hg]; exact Nat.lt_of_le_of_lt (Nat.gcd_le_right _ (by omega)) hb
  have K1 : Hid (∀ W, Below w3.heap.size w3 W → Calls Tryz.prog 210 #[.slice A1 1 c1, .int .u64 b] W fun e w' => e = .returned (.int .u64 (r : Nat)) ∧ Below w3.heap.size w3 w') := Lib.hid (fun W h => by
    rw [← hr]; exact (remw_any A1 c1 a b W (hA3.keep h) ha hb hb0).mono fun e w' ⟨h1, h2⟩ => ⟨h1, below_all h h2⟩)
  have K2 : Hid (∀ W, Below w3.heap.size w3 W → Calls Tryz.prog 209 #[.int .u64 b, .int .u64 (r : Nat)] W fun e w' => e = .returned (.int .u64 (Nat.gcd b r : Nat)) ∧ Below w3.heap.size w3 w') := Lib.hid (fun W h => 
    (gword_any b r W hb hrl hb0 (hT3.below h hT3.1)).mono fun e w' ⟨h1, h2⟩ => ⟨h1, h2 ▸ h⟩)
  have HG := Lib.hid hg
  clear hg hr
  generalize Nat.gcd b r = g at *
  have K3 : Hid (∀ W, Below w3.heap.size w3 W → Calls Tryz.prog 208 #[.int .u64 (g : Nat)] W fun e w' => ∃ A c, e = .returned (.slice A (wds g).length c) ∧ (wds g).length ≤ c ∧ Sl w' A (wds g).length 1 ((wds g).map vs) ∧ Below w3.heap.size w3 w') := Lib.hid (fun W h => 
    (fword_any g W hgl).mono fun e w' ⟨A, c, h1, h2, h3, h4⟩ => ⟨A, c, h1, h2, h3, below_all h h4⟩)
  go_wp2
  have he : Below w3.heap.size w3 w3.drew := (Below.refl _ _).drew
  go_region_held3 (fun w' => w'.cell? be = some (.int .u64 (b : Nat))) (first | go_keep | exact keep_cell hbe k4)
    (first
      | (go_at_call 210; refine (K1.out _ (by assumption)).mono ?_; rintro e w' ⟨rfl, hbe⟩)
      | (go_at_call 209; refine (K2.out _ (by assumption)).mono ?_; rintro e w' ⟨rfl, hbe⟩)
      | (go_at_call 208; refine (K3.out _ (by assumption)).mono ?_; rintro e w' ⟨A2, c2, rfl, hl2, hs2, hbe⟩))
  all_goals
    go_wp2
    go_ret
    rw [HG.out]
    exact ⟨A2, c2, rfl, hl2, hs2, below_all hbw hbe⟩
/-- Both numbers have one word. -/
theorem gcds_lt (A B : Option Addr) (c d a b : Nat) (w : World) (hA : Sets w A [a]) (hB : Sets w B [b]) (ha : a < 18446744073709551616) (hb : b < 18446744073709551616) (ha0 : a ≠ 0) (hT : Tab w) (z : Int) (hz : cmpN a b = z) (hz0 : z < 0) :
    Calls Tryz.prog 184 #[.slice A 1 c, .slice B 1 d] w (RetSl (wds (Nat.gcd a b)).length 1 ((wds (Nat.gcd a b)).map vs) w) := by
  have HC : Hid (∀ W, Below w.heap.size w W → Calls Tryz.prog 202 #[.slice A 1 c, .slice B 1 d] W fun e w' => e = .returned (.int .i64 z) ∧ Below W.heap.size W w') := Lib.hid (fun W h => by
    rw [← hz]; exact cmpw_any A B c d a b W (hA.keep h) (hB.keep h))
  clear hz
  have hzb : decide (z < 0) = true := by simp; omega
  go_enter Tryz.func184, Tryz.ntmps184
  go_wp2_with (go_at_call 202; refine (HC.out _ (Below.refl _ _)).mono ?_; rintro e w1 ⟨rfl, hb1⟩)
  obtain ⟨ad, rfl, k1, _⟩ := Sets.one (Sl.keep hA hb1)
  obtain ⟨bd, rfl, k2, _⟩ := Sets.one (Sl.keep hB hb1)
  refine (clone_any bd d b w1 k2).mono ?_
  rintro e w2 ⟨A1, c1, rfl, _, hS1, hb2⟩
  have k1' := keep_cell hb2 k1
  go_wp2_with (go_at_call 203; refine (clone_any ad c a w2 k1').mono ?_; rintro e w3 ⟨B1, d1, rfl, _, hS2, hb3⟩)
  refine wp_loop_rounds 1 ?_
  rw [rounds_succ]
  have hA3 : Sets w3 A1 [b] := Sl.keep hS1 hb3
  have hB3 : Sets w3 B1 [a] := hS2
  have hbw : Below w.heap.size w w3 := below_all (below_all hb1 hb2) hb3
  obtain ⟨be, rfl, k4, _⟩ := hB3.one
  have hT3 : Tab w3 := hT.below hbw hT.1
  have hz3 := hbw.size
  clear hS1 hS2 hb2 hb3 k1 k1' k2 hb1 hA hB hT HC
  obtain ⟨r, hr⟩ : ∃ r, b % a = r := ⟨_, rfl⟩
  have hg : Nat.gcd a b = Nat.gcd a r := by rw [← hr, Nat.gcd_rec, Nat.gcd_comm]
  have hrl : r < 18446744073709551616 := by rw [← hr]; exact Nat.lt_of_le_of_lt (Nat.mod_le _ _) hb
  have hgl : Nat.gcd a r < 18446744073709551616 := by rw [← hg]; exact Nat.lt_of_le_of_lt (Nat.gcd_le_left _ (by omega)) ha
  have K1 : Hid (∀ W, Below w3.heap.size w3 W → Calls Tryz.prog 210 #[.slice A1 1 c1, .int .u64 a] W fun e w' => e = .returned (.int .u64 (r : Nat)) ∧ Below w3.heap.size w3 w') := Lib.hid (fun W h => by
    rw [← hr]; exact (remw_any A1 c1 b a W (hA3.keep h) hb ha ha0).mono fun e w' ⟨h1, h2⟩ => ⟨h1, below_all h h2⟩)
  have K2 : Hid (∀ W, Below w3.heap.size w3 W → Calls Tryz.prog 209 #[.int .u64 a, .int .u64 (r : Nat)] W fun e w' => e = .returned (.int .u64 (Nat.gcd a r : Nat)) ∧ Below w3.heap.size w3 w') := Lib.hid (fun W h => 
    (gword_any a r W ha hrl ha0 (hT3.below h hT3.1)).mono fun e w' ⟨h1, h2⟩ => ⟨h1, h2 ▸ h⟩)
  have HG := Lib.hid hg
  clear hg hr
  generalize Nat.gcd a r = g at *
  have K3 : Hid (∀ W, Below w3.heap.size w3 W → Calls Tryz.prog 208 #[.int .u64 (g : Nat)] W fun e w' => ∃ A d, e = .returned (.slice A (wds g).length d) ∧ (wds g).length ≤ d ∧ Sl w' A (wds g).length 1 ((wds g).map vs) ∧ Below w3.heap.size w3 w') := Lib.hid (fun W h => 
    (fword_any g W hgl).mono fun e w' ⟨A, d, h1, h2, h3, h4⟩ => ⟨A, d, h1, h2, h3, below_all h h4⟩)
  go_wp2
  have he : Below w3.heap.size w3 w3.drew := (Below.refl _ _).drew
  go_region_held3 (fun w' => w'.cell? be = some (.int .u64 (a : Nat))) (first | go_keep | exact keep_cell hbe k4)
    (first
      | (go_at_call 210; refine (K1.out _ (by assumption)).mono ?_; rintro e w' ⟨rfl, hbe⟩)
      | (go_at_call 209; refine (K2.out _ (by assumption)).mono ?_; rintro e w' ⟨rfl, hbe⟩)
      | (go_at_call 208; refine (K3.out _ (by assumption)).mono ?_; rintro e w' ⟨A2, c2, rfl, hl2, hs2, hbe⟩))
  all_goals
    go_wp2
    go_ret
    rw [HG.out]
    exact ⟨A2, c2, rfl, hl2, hs2, below_all hbw hbe⟩
theorem gcdw_any (A B : Option Addr) (c d a b : Nat) (w : World) (hA : Sets w A [a]) (hB : Sets w B [b]) (ha : a < 18446744073709551616) (hb : b < 18446744073709551616) (ha0 : a ≠ 0) (hb0 : b ≠ 0) (hT : Tab w) :
    Calls Tryz.prog 184 #[.slice A 1 c, .slice B 1 d] w (RetSl (wds (Nat.gcd a b)).length 1 ((wds (Nat.gcd a b)).map vs) w) := by
  by_cases h : a < b
  · exact gcds_lt A B c d a b w hA hB ha hb ha0 hT _ rfl (by unfold cmpN; rw [if_pos h]; decide)
  · refine gcds_any A B c d a b w hA hB ha hb hb0 hT _ rfl ?_
    unfold cmpN; rw [if_neg h]; split <;> decide
end Go.Proofs.Tg
