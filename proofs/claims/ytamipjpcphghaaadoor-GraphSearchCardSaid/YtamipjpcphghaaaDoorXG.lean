/- The statements' Mod and made. -/
import Derived.Test.YtamipjpcphghaaaDoorPC
namespace Go.Gr
/-- The rest that is not negative. -/
def modZ (a n : Int) : Int := if a.tmod n < 0 then a.tmod n + n else a.tmod n
theorem modZ_in (a : Int) {n : Int} (hn : 0 < n) : 0 ≤ modZ a n ∧ modZ a n < n := by
  have h1 := Int.tmod_lt_of_pos a hn
  have h2 := Int.lt_tmod_of_pos a hn
  unfold modZ
  split <;> omega
/-- The pairs that made keeps. -/
def madeEs (m : Int) (es : List (Int × Int)) : List (Int × Int) := (es.map fun e => (modZ e.1 m, modZ e.2 m)).filter fun e => decide (e.1 ≠ e.2)
theorem madeEs_snoc (m : Int) (es : List (Int × Int)) (a b : Int) : madeEs m (es ++ [(a, b)]) = madeEs m es ++ if modZ a m = modZ b m then [] else [(modZ a m, modZ b m)] := by
  unfold madeEs
  rw [List.map_append, List.filter_append]
  by_cases h : modZ a m = modZ b m <;> simp [h]
theorem madeEs_ok {m : Int} (hm : 0 < m) (h64 : m ≤ 64) (es : List (Int × Int)) : rangeOk m (madeEs m es) ∧ ∀ x ∈ madeEs m es, x.1 ≠ x.2 := by
  refine ⟨⟨⟨by omega, h64⟩, fun e he => ?_⟩, fun x hx => ?_⟩
  · unfold madeEs at he
    obtain ⟨x, _, rfl⟩ := List.mem_map.1 (List.mem_filter.1 he).1
    have h1 := modZ_in x.1 hm
    have h2 := modZ_in x.2 hm
    exact ⟨h1.1, h1.2, h2.1, h2.2⟩
  · unfold madeEs at hx
    simpa using (List.mem_filter.1 hx).2
end Go.Gr
namespace Go.Proofs.Tg
open Go.RowKit Go.Gr
set_option maxHeartbeats 2000000
set_option maxRecDepth 100000
theorem mod_any (a n : Int) (w : World) (hn : 0 < n) (hn2 : n ≤ 1000) : Calls Tryd.prog 44 #[.int .i64 a, .int .i64 n] w fun e w' => e = .returned (.int .i64 (modZ a n)) ∧ w' = w := by
  have h1 := Int.tmod_lt_of_pos a hn
  have h2 := Int.lt_tmod_of_pos a hn
  have HM : Hid (modZ a n = if a.tmod n < 0 then a.tmod n + n else a.tmod n) := Lib.hid rfl
  have hne : (n == 0) = false := by simp; omega
  by_cases h : a.tmod n < 0
  · have d : decide (a.tmod n < 0) = true := by simpa using h
    rw [if_pos h] at HM
    go_enter Tryd.func44, Tryd.ntmps44
    go_wp2
    go_ret
    exact ⟨by rw [HM.out]; rfl, rfl⟩
  · have d : decide (a.tmod n < 0) = false := by simpa using h
    rw [if_neg h] at HM
    go_enter Tryd.func44, Tryd.ntmps44
    go_wp2
    go_ret
    exact ⟨by rw [HM.out]; rfl, rfl⟩
end Go.Proofs.Tg
