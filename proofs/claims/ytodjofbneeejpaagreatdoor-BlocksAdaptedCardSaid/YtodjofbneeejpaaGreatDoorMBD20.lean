/- Parts of the proof: BGB, GXG. -/
import Derived.Deep.RegionWith
import Derived.Deep.RegionHeld3
import Derived.Deep.DeepCutAuto
import Derived.Test.YtodjofbneeejpaaGreatDoorMBD0
import Derived.Test.YtodjofbneeejpaaGreatDoorMBD1
import Derived.Test.YtodjofbneeejpaaGreatDoorMBD4
import Derived.Test.YtodjofbneeejpaaGreatDoorMBD8
section
/- The permutation that the law makes of a list of numbers: each number is put in at a place that the list tells. Plain. -/
namespace Go.Pm
/-- key i is the place at which i is put in; it is at most i. -/
def permOf (key : Nat → Nat) : Nat → List Int
  | 0 => []
  | i + 1 => (permOf key i).take (key i) ++ (i : Int) :: (permOf key i).drop (key i)
theorem permOf_perm {key : Nat → Nat} (hk : ∀ i, key i ≤ i) : ∀ n, Perm n (permOf key n)
  | 0 => perm_zero
  | n + 1 => perm_ins (permOf_perm hk n) (hk n)
end Go.Pm
end
section
/- The statements' Mod and made. -/
namespace Go.Gr
/-- The rest that is not negative. -/
def modZ (a n : Int) : Int := if a.tmod n < 0 then a.tmod n + n else a.tmod n
theorem modZ_in (a : Int) {n : Int} (hn : 0 < n) : 0 ≤ modZ a n ∧ modZ a n < n := by
 have h1 := Int.tmod_lt_of_pos a hn
 have h2 := Int.lt_tmod_of_pos a hn
 unfold modZ
 split <;> omega
end Go.Gr
namespace Go.Proofs.Tg.Gx
open Go.RowKit Go.Gr
set_option maxHeartbeats 2000000
set_option maxRecDepth 100000
theorem mod_any (a n : Int) (w : World) (hn : 0 < n) (hn2 : n ≤ 1000) : Calls Tryz.prog 24 #[.int .i64 a, .int .i64 n] w fun e w' => e = .returned (.int .i64 (modZ a n)) ∧ w' = w := by
 have h1 := Int.tmod_lt_of_pos a hn
 have h2 := Int.lt_tmod_of_pos a hn
 have HM : Hid (modZ a n = if a.tmod n < 0 then a.tmod n + n else a.tmod n) := Lib.hid rfl
 have hne : (n == 0) = false := by simp; omega
 by_cases h : a.tmod n < 0
 ·have d : decide (a.tmod n < 0) = true := by simpa using h
  rw [if_pos h] at HM
  go_enter Tryz.func24, Tryz.ntmps24
  go_wp2
  go_ret
  exact ⟨by rw [HM.out]; rfl, rfl⟩
 ·have d : decide (a.tmod n < 0) = false := by simpa using h
  rw [if_neg h] at HM
  go_enter Tryz.func24, Tryz.ntmps24
  go_wp2
  go_ret
  exact ⟨by rw [HM.out]; rfl, rfl⟩
end Go.Proofs.Tg.Gx
end
