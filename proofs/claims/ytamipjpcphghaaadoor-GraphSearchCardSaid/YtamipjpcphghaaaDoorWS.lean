/- The statements' sanity check returns true. -/
import Derived.Test.YtamipjpcphghaaaDoorWR
namespace Go.Proofs.Tg
open Go.RowKit Go.Gr
set_option maxHeartbeats 2000000
set_option maxRecDepth 100000
theorem awake_any (w : World) (hT : Tab w) : Calls Tryd.prog 12 #[] w fun e w' => e = .returned (.bool true) ∧ Below w.heap.size w w' := by
  have hbA : Below w.heap.size w (w.alloc (.cells (ecells es0).toArray 46)) := (Below.refl _ _).alloc (Nat.le_refl _) _
  have HM := Lib.hid (aw_make (w.alloc (.cells (ecells es0).toArray 46)) w.heap.size (Blk.new _ _ _) (hT.below hbA hT.1))
  go_enter Tryd.func12, Tryd.ntmps12
  go_wp2_with (first
    | (go_at_call 13; refine HM.out.mono ?_; rintro e w1 ⟨F, d, rfl, hE1, hb1⟩
       have hbw1 : Below w.heap.size w w1 := hbA.trans (hb1.mono (by simp)))
    | (go_at_call 28; refine (aw_chordal _ F d (hE1.keep ((Below.refl _ _).alloc (Nat.le_refl _) _)) (hT.below (hbw1.alloc hbw1.size _) hT.1)).mono ?_; rintro e w2 ⟨rfl, hb2⟩
       have hbw2 : Below w.heap.size w w2 := below_all (hbw1.alloc hbw1.size _) hb2
       have k0 := keep_cell hb2 (Blk.cell (Blk.new w1 25 #[.int .i64 4, .slice F 4 d]) 0)
       have k1 := keep_cell hb2 (Blk.cell (Blk.new w1 25 #[.int .i64 4, .slice F 4 d]) 1)
       have hE1' := (hE1.keep ((Below.refl _ _).alloc (Nat.le_refl _) _)).keep hb2)
    | (go_at_call 25; refine (aw_extend _ F d hE1' (hT.below hbw2 hT.1)).mono ?_; rintro e w3 ⟨F2, d2, rfl, hE2, hb3⟩
       have hbw3 : Below w.heap.size w w3 := below_all hbw2 hb3)
    | (go_at_call 18; refine (aw_cliques _ F2 d2 (hE2.keep ((Below.refl _ _).alloc (Nat.le_refl _) _)) (hT.below (hbw3.alloc hbw3.size _) hT.1)).mono ?_; rintro e w4 ⟨V, dv, rfl, hL, hb4⟩
       have hbw4 : Below w.heap.size w w4 := below_all (hbw3.alloc hbw3.size _) hb4)
    | (go_at_call 22; refine (aw_tree _ V dv hL).mono ?_; rintro e w5 ⟨A, ca, rfl, hI, hb5⟩
       have hbw5 : Below w.heap.size w w5 := below_all hbw4 hb5
       have hL5 := hL.keep hb5))
  have q1 : Blk (((w5.alloc (.cells #[.int .i64 0, .int .i64 1, .int .i64 3] 3)).alloc (.cells #[.int .i64 1, .int .i64 2, .int .i64 3] 3)).alloc (.cells #[.slice (some ⟨w5.heap.size, 0, none⟩) 3 3, .slice (some ⟨w5.heap.size + 1, 0, none⟩) 3 3] 40)) w5.heap.size 3 #[.int .i64 0, .int .i64 1, .int .i64 3] :=
    ((Blk.new _ _ _).alloc _).alloc _
  have q2 : Blk (((w5.alloc (.cells #[.int .i64 0, .int .i64 1, .int .i64 3] 3)).alloc (.cells #[.int .i64 1, .int .i64 2, .int .i64 3] 3)).alloc (.cells #[.slice (some ⟨w5.heap.size, 0, none⟩) 3 3, .slice (some ⟨w5.heap.size + 1, 0, none⟩) 3 3] 40)) (w5.heap.size + 1) 3 #[.int .i64 1, .int .i64 2, .int .i64 3] := by
    have := (Blk.new (w5.alloc (.cells #[.int .i64 0, .int .i64 1, .int .i64 3] 3)) 3 #[.int .i64 1, .int .i64 2, .int .i64 3]).alloc (.cells #[.slice (some ⟨w5.heap.size, 0, none⟩) 3 3, .slice (some ⟨w5.heap.size + 1, 0, none⟩) 3 3] 40)
    simpa using this
  have q3 : Blk (((w5.alloc (.cells #[.int .i64 0, .int .i64 1, .int .i64 3] 3)).alloc (.cells #[.int .i64 1, .int .i64 2, .int .i64 3] 3)).alloc (.cells #[.slice (some ⟨w5.heap.size, 0, none⟩) 3 3, .slice (some ⟨w5.heap.size + 1, 0, none⟩) 3 3] 40)) (w5.heap.size + 1 + 1) 40 #[.slice (some ⟨w5.heap.size, 0, none⟩) 3 3, .slice (some ⟨w5.heap.size + 1, 0, none⟩) 3 3] := by
    have := Blk.new ((w5.alloc (.cells #[.int .i64 0, .int .i64 1, .int .i64 3] 3)).alloc (.cells #[.int .i64 1, .int .i64 2, .int .i64 3] 3)) 40 #[.slice (some ⟨w5.heap.size, 0, none⟩) 3 3, .slice (some ⟨w5.heap.size + 1, 0, none⟩) 3 3]
    simpa using this
  have hbX : Below w5.heap.size w5 (((w5.alloc (.cells #[.int .i64 0, .int .i64 1, .int .i64 3] 3)).alloc (.cells #[.int .i64 1, .int .i64 2, .int .i64 3] 3)).alloc (.cells #[.slice (some ⟨w5.heap.size, 0, none⟩) 3 3, .slice (some ⟨w5.heap.size + 1, 0, none⟩) 3 3] 40)) :=
    (((Below.refl _ _).alloc (Nat.le_refl _) _).alloc (by simp) _).alloc (by simp; omega) _
  refine (aw_lists _ V dv w5.heap.size (w5.heap.size + 1) (w5.heap.size + 1 + 1) (hL5.keep hbX) q1 q2 q3).mono ?_
  rintro e w6 ⟨rfl, hb6⟩
  have hbw6 : Below w5.heap.size w5 w6 := below_all hbX hb6
  have hI6 := (hI.keep hbw6).keep (w' := w6.alloc (.cells #[.int .i64 (-1), .int .i64 0] 3)) ((Below.refl _ _).alloc (Nat.le_refl _) _)
  clear q1 q2 q3 hbX hb6 hL5 hL
  go_wp2_with (go_at_call 24; refine (aw_ints _ A ca w6.heap.size hI6 (Blk.new _ _ _)).mono ?_; rintro e w7 ⟨rfl, hb7⟩)
  go_ret
  have h6 : Below w.heap.size w w6 := below_all hbw5 hbw6
  exact ⟨rfl, below_all (h6.alloc h6.size _) hb7⟩
end Go.Proofs.Tg
