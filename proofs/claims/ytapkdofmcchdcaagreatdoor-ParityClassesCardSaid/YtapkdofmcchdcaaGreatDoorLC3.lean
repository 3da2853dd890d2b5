/- The statement ParityClasses, walked. -/
import Derived.Test.YtapkdofmcchdcaaGreatDoorLC2
import Derived.Test.YtapkdofmcchdcaaGreatDoorXD3
namespace Go.Proofs.Tg
open Go.RowKit Go.Gr Go.Ev Go.Mo Go.Qn
set_option maxHeartbeats 4000000
set_option maxRecDepth 100000
theorem chr_len (s : List (List Int)) (m : List Int) : (chr s m).length = s.length := by simp [chr]
theorem clsL_len (s b : List (List Int)) (hb : b.length ≤ 1000) : (clsL s b).length ≤ 1000000 ∧ ∀ l ∈ clsL s b, l.length ≤ 1000000 := by
  unfold clsL
  split
  · refine ⟨?_, fun l hl => ?_⟩
    · have := clsSt_len (b.map (chr s)) b.length
      rw [List.length_map]
      omega
    · obtain ⟨x, hx, rfl⟩ := List.mem_map.1 hl
      obtain ⟨i, hi, rfl⟩ := List.getElem_of_mem hx
      have := clsSt_each (b.map (chr s)) b.length i
      rw [List.getD_eq_getElem?_getD, List.getElem?_eq_getElem hi] at this
      simp only [Option.getD_some] at this
      simp only [toI, List.length_map]
      omega
  · exact ⟨by simp, fun l hl => by cases hl⟩
theorem law_classes (S M B : Option Addr) (cs cm cb : Nat) (s : List (List Int)) (m : List Int) (b : List (List Int)) (w : World) (hS : Lists w S s) (hM : Ints w M m) (hB : Lists w B b) (hT : Tab w) :
    Calls Tryz.prog 4 #[.slice S s.length cs, .slice M m.length cm, .slice B b.length cb] w fun e w' => e = .returned (.bool true) ∧ Below w.heap.size w w' := by
  by_cases h1 : s.length ≤ 6 ∧ ∀ l ∈ s, l.length ≤ 8
  · by_cases h2 : m.length ≤ 10
    · by_cases h3 : b.length ≤ 80 ∧ ∀ l ∈ b, l.length ≤ 8
      · have a1 : s.length ≤ 1000 := by omega
        have a2 : ∀ v ∈ s, v.length ≤ 1000 := fun v hv => by have := h1.2 v hv; omega
        have a3 : b.length ≤ 1000 := by omega
        have a4 : ∀ v ∈ b, v.length ≤ 1000 := fun v hv => by have := h3.2 v hv; omega
        have hd : decide ((10 : Int) < (m.length : Int)) = false := by simp; omega
        have HA := Lib.hid (And.intro a1 (And.intro a2 (And.intro a3 a4)))
        have HL := Lib.hid (clsL_len s b a3)
        have HC : Hid ((if chk s [m] = 0 then chr s m else []).length ≤ 1000000) := Lib.hid (by split <;> simp [chr_len]; omega)
        clear a1 a2 a3 a4
        generalize hk : (if chk s [m] = 0 then chr s m else []) = K at HC
        have HK := Lib.hid hk
        clear hk
        have HS := Lib.hid h1
        have HB := Lib.hid h3
        clear h1 h3
        go_enter Tryz.func4, Tryz.ntmps4
        go_wp2_with (fail)
        refine (small_any S cs 6 8 s true w hS (by simpa using HS.out) (by omega)).mono ?_
        rintro e _ ⟨rfl, rfl⟩
        go_wp2_with (fail)
        refine (small_any B cb 80 8 b true w hB (by simpa using HB.out) (by omega)).mono ?_
        rintro e _ ⟨rfl, rfl⟩
        go_wp2_with (fail)
        refine (Char_any S M cs cm s m w hS hM HA.out.1 HA.out.2.1 (by omega)).mono ?_
        rintro e w1 ⟨X1, c1, he, hX1, hb1⟩
        rw [HK.out] at he hX1
        subst he
        go_wp2_with (fail)
        refine (rChar_any S M cs cm s m w1 (hS.keep hb1) (hM.keep hb1) HA.out.1 HA.out.2.1 (by omega)).mono ?_
        rintro e w2 ⟨X2, c2, he, hX2, hb2⟩
        rw [HK.out] at he hX2
        subst he
        have hX1 := hX1.keep hb2
        have hb2 := below_all hb1 hb2
        clear hb1
        go_wp2_with (fail)
        refine (classes_any S B cs cb s b w2 (hS.keep hb2) (hB.keep hb2) HA.out.1 HA.out.2.2.1 HA.out.2.1 HA.out.2.2.2).mono ?_
        rintro e w3 ⟨Y1, d1, rfl, hY1, hb3⟩
        have hX1 := hX1.keep hb3
        have hX2 := hX2.keep hb3
        have hb3 := below_all hb2 hb3
        clear hb2
        go_wp2_with (fail)
        refine (rclasses_any S B cs cb s b w3 (hS.keep hb3) (hB.keep hb3) HA.out.1 HA.out.2.2.1 HA.out.2.1 HA.out.2.2.2).mono ?_
        rintro e w4 ⟨Y2, d2, rfl, hY2, hb4⟩
        have hX1 := hX1.keep hb4
        have hX2 := hX2.keep hb4
        have hY1 := hY1.keep hb4
        have hb4 := below_all hb3 hb4
        clear hb3
        go_wp2_with (fail)
        refine (ints_any X1 X2 K K c1 c2 w4 hX1 hX2 HC.out).mono ?_
        rintro e w5 ⟨he, hb5⟩
        rw [decide_eq_true rfl] at he
        subst he
        have hb5 := hb5.below
        have hY1 := hY1.keep hb5
        have hY2 := hY2.keep hb5
        have hb5 := below_all hb4 hb5
        clear hb4
        go_wp2_with (fail)
        refine (lists_any Y1 Y2 (clsL s b) (clsL s b) d1 d2 w5 hY1 hY2 HL.out.1 HL.out.2).mono ?_
        rintro e w6 ⟨he, hb6⟩
        rw [decide_eq_true rfl] at he
        subst he
        have hb6 := below_all hb5 hb6.below
        clear hb5
        go_wp2_with (fail)
        refine (awake_any w6 (hT.below hb6 hT.1)).mono ?_
        rintro e w7 ⟨rfl, hb7⟩
        go_wp2_with (fail)
        go_ret
        exact ⟨rfl, below_all hb6 hb7⟩
      · have hd : decide ((10 : Int) < (m.length : Int)) = false := by simp; omega
        have HS := Lib.hid h1
        have HB := Lib.hid h3
        clear h1 h3
        go_enter Tryz.func4, Tryz.ntmps4
        go_wp2_with (fail)
        refine (small_any S cs 6 8 s true w hS (by simpa using HS.out) (by omega)).mono ?_
        rintro e _ ⟨rfl, rfl⟩
        go_wp2_with (fail)
        refine (small_any B cb 80 8 b false w hB (by simpa using HB.out) (by omega)).mono ?_
        rintro e _ ⟨rfl, rfl⟩
        go_wp2_with (fail)
        refine (awake_any w hT).mono ?_
        rintro e w7 ⟨rfl, hb7⟩
        go_wp2_with (fail)
        go_ret
        exact ⟨rfl, hb7⟩
    · have hd : decide ((10 : Int) < (m.length : Int)) = true := by simp; omega
      have HS := Lib.hid h1
      clear h1
      go_enter Tryz.func4, Tryz.ntmps4
      go_wp2_with (fail)
      refine (small_any S cs 6 8 s true w hS (by simpa using HS.out) (by omega)).mono ?_
      rintro e _ ⟨rfl, rfl⟩
      go_wp2_with (fail)
      refine (awake_any w hT).mono ?_
      rintro e w7 ⟨rfl, hb7⟩
      go_wp2_with (fail)
      go_ret
      exact ⟨rfl, hb7⟩
  · have HS := Lib.hid h1
    clear h1
    go_enter Tryz.func4, Tryz.ntmps4
    go_wp2_with (fail)
    refine (small_any S cs 6 8 s false w hS (by simpa using HS.out) (by omega)).mono ?_
    rintro e _ ⟨rfl, rfl⟩
    go_wp2_with (fail)
    refine (awake_any w hT).mono ?_
    rintro e w7 ⟨rfl, hb7⟩
    go_wp2_with (fail)
    go_ret
    exact ⟨rfl, hb7⟩
end Go.Proofs.Tg
