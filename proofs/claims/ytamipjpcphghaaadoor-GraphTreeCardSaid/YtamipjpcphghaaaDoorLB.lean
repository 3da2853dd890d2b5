/- The statement GraphTree, walked. -/
import Derived.Test.YtamipjpcphghaaaDoorWT
import Derived.Test.YtamipjpcphghaaaDoorWS
namespace Go.Proofs.Tg
open Go.RowKit Go.Gr
set_option maxHeartbeats 2000000
set_option maxRecDepth 100000
theorem both_tree {ls : List (List Int)} (hl : ∀ l ∈ ls, l.length ≤ 8) : ∃ (m : List Int) (c : Int), m.length ≤ 1000 ∧
    (∀ V d w, Lists w V ls → Calls Tryd.prog 22 #[.slice V ls.length d] w fun e w' => ∃ F d', e = .returned (.tuple #[.slice F m.length d', .int .i64 c]) ∧ Ints w' F m ∧ Below w.heap.size w w') ∧
    (∀ V d w, Lists w V ls → Calls Tryd.prog 23 #[.slice V ls.length d] w fun e w' => ∃ F d', e = .returned (.tuple #[.slice F m.length d', .int .i64 c]) ∧ Ints w' F m ∧ Below w.heap.size w w') := by
  by_cases h64 : ls.length ≤ 64
  · by_cases hg : goodLs ls
    · have hE := rtree_tree (ls := ls) (fun l h => (hg l h).2) h64
      have hlen : (tree (ls.map setOf)).length = ls.length := by rw [← hE]; simp
      refine ⟨tree (ls.map setOf), 0, by omega, fun V d w hV => ?_, fun V d w hV => ?_⟩
      · refine (tree_ok V d ls w hV h64 (fun l h => by have := hl l h; omega) hg).mono ?_
        rintro e w' ⟨A, c, rfl, hA, hb⟩
        refine ⟨A, c, by rw [hlen], ?_, hb⟩
        show Sl _ _ _ 1 _
        rw [hlen]
        exact Sl.own hA
      · refine (rtree_any V d ls w hV h64 (fun l h => by have := hl l h; omega)).mono ?_
        rintro e w' (⟨h, _⟩ | ⟨_, A, c, rfl, hA, hb⟩)
        · exact absurd hg h
        · rw [hE] at hA
          exact ⟨A, c, by rw [hlen], hA, hb⟩
    · refine ⟨[], 1, by simp, fun V d w hV => ?_, fun V d w hV => ?_⟩
      · refine (tree_bad V d ls w hV h64 (fun l h => by have := hl l h; omega) hg).mono ?_
        rintro e w' ⟨rfl, hb⟩
        exact ⟨none, 0, rfl, Sl.nil _ _ _, hb⟩
      · refine (rtree_any V d ls w hV h64 (fun l h => by have := hl l h; omega)).mono ?_
        rintro e w' (⟨_, rfl, hb⟩ | ⟨h, _⟩)
        · exact ⟨none, 0, rfl, Sl.nil _ _ _, hb⟩
        · exact absurd h hg
  · refine ⟨[], 2, by simp, fun V d w hV => ?_, fun V d w hV => ?_⟩
    · refine (tree_limit V d ls w (by omega)).mono ?_
      rintro e w' ⟨rfl, rfl⟩
      exact ⟨none, 0, rfl, Sl.nil _ _ _, Below.refl _ _⟩
    · refine (rtree_limit V d ls w (by omega)).mono ?_
      rintro e w' ⟨rfl, rfl⟩
      exact ⟨none, 0, rfl, Sl.nil _ _ _, Below.refl _ _⟩
theorem law_tree (V : Option Addr) (ls : List (List Int)) (c : Nat) (w : World) (hV : Lists w V ls) (hT : Tab w) :
    Calls Tryd.prog 5 #[.slice V ls.length c] w fun e w' => e = .returned (.bool true) ∧ Below w.heap.size w w' := by
  have hsm := fun b h => small_any V c 80 8 ls b w hV h (by omega)
  by_cases hs : ls.length ≤ 80 ∧ ∀ l ∈ ls, l.length ≤ 8
  · have HS := Lib.hid (hsm true (by simp only [true_iff]; exact hs))
    clear hsm
    obtain ⟨hl80, hl8⟩ := hs
    by_cases hmid : 12 < ls.length ∧ ls.length < 60
    · have hb1 : decide ((12 : Int) < (ls.length : Int)) = true := by simp; omega
      have hb2 : decide ((ls.length : Int) < 60) = true := by simp; omega
      clear hl8 hV
      go_enter Tryd.func5, Tryd.ntmps5
      go_wp2_with (first
        | (go_at_call 21; refine HS.out.mono ?_; rintro e w1 ⟨rfl, rfl⟩)
        | (go_at_call 12; refine (awake_any _ hT).mono ?_; rintro e w4 ⟨rfl, hb4⟩))
      go_ret
      exact ⟨rfl, hb4⟩
    · obtain ⟨m, cc, hml, H1, H2⟩ := both_tree hl8
      have HM1 := Lib.hid H1
      have HM2 := Lib.hid H2
      clear H1 H2 hl8
      have hcase : decide ((12 : Int) < (ls.length : Int)) = false ∨ (decide ((12 : Int) < (ls.length : Int)) = true ∧ decide ((ls.length : Int) < 60) = false) := by
        by_cases h : 12 < ls.length
        · right; constructor <;> simp <;> omega
        · left; simp; omega
      have HV := Lib.hid hV
      clear hV hmid
      have key : (decide ((12 : Int) < (ls.length : Int)) && decide ((ls.length : Int) < 60)) = false := by rcases hcase with h | ⟨h, h2⟩ <;> simp [h] <;> simpa using h2
      rcases hcase with hb1 | ⟨hb1, hb2⟩
      all_goals
        clear key
        go_enter Tryd.func5, Tryd.ntmps5
        go_wp2_with (first
          | (go_at_call 21; refine HS.out.mono ?_; rintro e w1 ⟨rfl, rfl⟩)
          | (go_at_call 22; refine (HM1.out V c w HV.out).mono ?_; rintro e w1 ⟨F, d, rfl, hF, hb1w⟩)
          | (go_at_call 23; refine (HM2.out V c w1 (HV.out.keep hb1w)).mono ?_; rintro e w2 ⟨F2, d2, rfl, hF2, hb2w⟩; have hF' := hF.keep hb2w; have hbw2 : Below w.heap.size w w2 := below_all hb1w hb2w)
          | (go_at_call 24; refine (ints_any F F2 m m d d2 w2 hF' hF2 (by omega)).mono ?_; rintro e w3 ⟨he, hb3⟩; rw [decide_eq_true rfl] at he; subst he; have hbw3 : Below w.heap.size w w3 := below_all hbw2 hb3.below)
          | (go_at_call 12; refine (awake_any _ (hT.below hbw3 hT.1)).mono ?_; rintro e w4 ⟨rfl, hb4⟩))
        go_ret
        exact ⟨rfl, below_all hbw3 hb4⟩
  · have HS := Lib.hid (hsm false (by simp only [Bool.false_eq_true, false_iff]; exact hs))
    clear hsm hs
    go_enter Tryd.func5, Tryd.ntmps5
    go_wp2_with (first
      | (go_at_call 21; refine HS.out.mono ?_; rintro e w1 ⟨rfl, rfl⟩)
      | (go_at_call 12; refine (awake_any _ hT).mono ?_; rintro e w4 ⟨rfl, hb4⟩))
    go_ret
    exact ⟨rfl, hb4⟩
end Go.Proofs.Tg
