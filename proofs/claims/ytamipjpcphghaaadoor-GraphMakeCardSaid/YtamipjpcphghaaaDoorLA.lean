/- The statement GraphMake, walked. -/
import Derived.Test.YtamipjpcphghaaaDoorXD
import Derived.Test.YtamipjpcphghaaaDoorPA
import Derived.Test.YtamipjpcphghaaaDoorWS
namespace Go.Proofs.Tg
open Go.RowKit Go.Gr
set_option maxHeartbeats 2000000
set_option maxRecDepth 100000
/-- Both makers answer alike. -/
theorem both_make {n : Int} {es : List (Int × Int)} : ∃ (m : Int) (fs : List (Int × Int)) (c : Int), fs.length ≤ 1000000 ∧ 
    (∀ w e w', RetMake n es w e w' → ∃ F d, e = .returned (.tuple #[Value.agg #[.int .i64 m, .slice F fs.length d], .int .i64 c]) ∧ EdgesAt w' F fs ∧ Below w.heap.size w w') ∧
    (∀ w e w', RetRMake n es w e w' → ∃ F d, e = .returned (.tuple #[Value.agg #[.int .i64 m, .slice F fs.length d], .int .i64 c]) ∧ EdgesAt w' F fs ∧ Below w.heap.size w w') := by
  by_cases h : rangeOk n es
  · by_cases h2 : ∃ x ∈ es, x.1 = x.2
    · refine ⟨0, [], 1, by simp, ?_, ?_⟩
      · rintro w e w' (⟨h3, _⟩ | ⟨_, _, h4, h5⟩ | ⟨_, h3, _⟩)
        · exact absurd h h3
        · exact ⟨none, 0, h4, Sl.nil _ _ _, h5⟩
        · obtain ⟨x, hx, e⟩ := h2
          exact absurd e (h3 x hx)
      · rintro w e w' (⟨h3, _⟩ | ⟨_, _, h4, h5⟩ | ⟨_, h3, _⟩)
        · exact absurd h h3
        · exact ⟨none, 0, h4, Sl.nil _ _ _, h5⟩
        · obtain ⟨x, hx, e⟩ := h2
          exact absurd e (h3 x hx)
    · have h2' : ∀ x ∈ es, x.1 ≠ x.2 := fun x hx e => h2 ⟨x, hx, e⟩
      have hE := make_edges h h2'
      refine ⟨n, tableEdges (readT es) n.toNat n.toNat, 0, ?_, ?_, ?_⟩
      · rw [← hE]
        have : ∀ m, (writeEdges (readAll es) m).length ≤ 64 * m := by
          intro m
          induction m with
          | zero => simp [writeEdges]
          | succ m ih =>
            rw [writeEdges_succ, List.length_append]
            have := rowEdges_len (readAll es) m
            omega
        have := this n.toNat
        have := h.1
        omega
      · rintro w e w' (⟨h3, _⟩ | ⟨_, h3, _⟩ | ⟨_, _, F, d, h3, h4, h5⟩)
        · exact absurd h h3
        · exact absurd h3 h2
        · rw [hE] at h3 h4
          exact ⟨F, d, h3, Sl.own h4, h5⟩
      · rintro w e w' (⟨h3, _⟩ | ⟨_, h3, _⟩ | ⟨_, _, F, d, h3, h4, h5⟩)
        · exact absurd h h3
        · exact absurd h3 h2
        · exact ⟨F, d, h3, Sl.own h4, h5⟩
  · refine ⟨0, [], 3, by simp, ?_, ?_⟩
    · rintro w e w' (⟨_, h4, h5⟩ | ⟨h3, _⟩ | ⟨h3, _⟩)
      · exact ⟨none, 0, h4, Sl.nil _ _ _, h5⟩
      · exact absurd h3 h
      · exact absurd h3 h
    · rintro w e w' (⟨_, h4, h5⟩ | ⟨h3, _⟩ | ⟨h3, _⟩)
      · exact ⟨none, 0, h4, Sl.nil _ _ _, h5⟩
      · exact absurd h3 h
      · exact absurd h3 h
theorem law_make (n : Int) (E : Option Addr) (es : List (Int × Int)) (c : Nat) (w : World) (hE : EdgesAt w E es) (hT : Tab w) :
    Calls Tryd.prog 3 #[.int .i64 n, .slice E es.length c] w fun e w' => e = .returned (.bool true) ∧ Below w.heap.size w w' := by
  by_cases hl : es.length ≤ 40
  · have hb : decide ((40 : Int) < (es.length : Int)) = false := by simp; omega
    obtain ⟨m, fs, cc, hfl, H1, H2⟩ := both_make (n := n) (es := es)
    have HM1 := Lib.hid H1
    have HM2 := Lib.hid H2
    clear H1 H2
    go_enter Tryd.func3, Tryd.ntmps3
    go_wp2_with (first
      | (go_at_call 13; refine (make_any n E c es _ hE (by omega) hT).mono ?_; intro e w1 hm; obtain ⟨F, d, rfl, hF, hb1⟩ := HM1.out _ _ _ hm; clear hm)
      | (go_at_call 14; refine (rmake_any n E c es _ (hE.keep (hb1.alloc hb1.size _)) (by omega)).mono ?_; intro e w2 hm; obtain ⟨F2, d2, rfl, hF2, hb2⟩ := HM2.out _ _ _ hm; clear hm
         have k0 := keep_cell hb2 (Blk.cell (Blk.new w1 25 #[.int .i64 m, .slice F fs.length d]) 0)
         have k1 := keep_cell hb2 (Blk.cell (Blk.new w1 25 #[.int .i64 m, .slice F fs.length d]) 1)
         simp at k0 k1
         have hlt : w1.heap.size < w2.heap.size := by have := hb2.size; simp at this; omega
         have hbw2 : Below w.heap.size w w2 := below_all (hb1.alloc hb1.size _) hb2
         have hF' := (hF.keep ((Below.refl _ _).alloc (Nat.le_refl _) _)).keep hb2)
      | (go_at_call 15; refine (graphs_any m m F F2 fs fs d d2 _ (hF'.keep ((Below.refl _ _).alloc (Nat.le_refl _) _)) (hF2.keep ((Below.refl _ _).alloc (Nat.le_refl _) _)) hfl).mono ?_; rintro e w3 ⟨he, hb3⟩
         rw [decide_eq_true ⟨rfl, rfl⟩] at he
         subst he
         have hbw3 : Below w.heap.size w w3 := below_all (hbw2.alloc hbw2.size _) hb3)
      | (go_at_call 12; refine (awake_any _ (hT.below hbw3 hT.1)).mono ?_; rintro e w4 ⟨rfl, hb4⟩))
    go_ret
    exact ⟨rfl, below_all hbw3 hb4⟩
  · have hb : decide ((40 : Int) < (es.length : Int)) = true := by simp; omega
    go_enter Tryd.func3, Tryd.ntmps3
    go_wp2_with (go_at_call 12; refine (awake_any _ hT).mono ?_; rintro e w4 ⟨rfl, hb4⟩)
    go_ret
    exact ⟨rfl, hb4⟩
end Go.Proofs.Tg
