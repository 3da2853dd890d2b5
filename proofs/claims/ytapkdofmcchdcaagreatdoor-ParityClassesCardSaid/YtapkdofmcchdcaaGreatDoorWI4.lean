/- Walks: a number read. -/
import Derived.Test.YtapkdofmcchdcaaGreatDoorWI3
import Derived.Test.YtapkdofmcchdcaaGreatDoorMem2
import Derived.Deep.DeepCutAuto
namespace Go.Proofs.Tg
open Go.RowKit Go.Qn Go.Gr
set_option maxHeartbeats 1000000
set_option maxRecDepth 100000
theorem wds_pos {m : Nat} (h : m ≠ 0) : wds m = [m] := by unfold wds; rw [if_neg h]
theorem gcd_any (A B : Option Addr) (c d a b : Nat) (x y : Bool) (w : World) (hA : Sets w A [a]) (hB : Sets w B [b]) (ha : a < 18446744073709551616) (hb : b < 18446744073709551616) (ha0 : a ≠ 0) (hb0 : b ≠ 0) (hT : Tab w) :
    Calls Tryz.prog 164 #[.agg #[.bool x, .slice A 1 c], .agg #[.bool y, .slice B 1 d]] w (RetInt false (Nat.gcd a b) w) := by
  have hbA : Below w.heap.size w (((w.alloc (.cells #[.bool x, .slice A 1 c] 211)).alloc (.cells #[.bool y, .slice B 1 d] 211)).alloc (.cells #[.bool false, .slice none 0 0] 211)) :=
    (((Below.refl _ _).alloc (Nat.le_refl _) _).alloc (by simp) _).alloc (by simp; omega) _
  have HK := Lib.hid (gcdw_any A B c d a b _ (hA.keep hbA) (hB.keep hbA) ha hb ha0 hb0 (hT.below hbA hT.1))
  go_enter Tryz.func164, Tryz.ntmps164
  go_wp2_with (go_at_call 184; refine HK.out.mono ?_; rintro e w1 ⟨A1, c1, rfl, h1, h2, h3⟩
               have B4 : Blk w1 (w.heap.size + 1 + 1) 211 #[.bool false, .slice none 0 0] := by
                 have := (Blk.new ((w.alloc (.cells #[.bool x, .slice A 1 c] 211)).alloc (.cells #[.bool y, .slice B 1 d] 211)) 211 #[.bool false, .slice none 0 0]).keep h3 (by simp)
                 simpa using this
               have q0 := B4.cell 0
               have q1 := B4.cell 1
               have f0 := B4.frozen 0
               have f1 := B4.frozen 1
               clear B4
               simp at q0 q1)
  refine bodyPost_ret (v := .agg #[.bool false, .slice A1 (wds (Nat.gcd a b)).length c1]) (by simp [results, Tryz.results164, go_sem, q0, q1]) rfl ⟨A1, _, rfl, ?_, ?_⟩
  · have h4 := Sl.put h2 q0 (by simp [vs]) (.bool false)
    exact Sl.put h4 (v := .slice none 0 0) (by rw [World.cell?_setCell_other _ _ _ _ (by simp)]; exact q1) (by simp [vs]) _
  · exact (((hbA.trans (h3.mono (by simp; omega))).setCell (by simp; omega) _).setCell (by simp; omega) _)
theorem isone_any (A : Option Addr) (c m : Nat) (w : World) (hA : Sets w A (wds m)) :
    Calls Tryz.prog 165 #[.agg #[.bool false, .slice A (wds m).length c]] w fun e w' => e = .returned (.bool (decide (m = 1))) ∧ Below w.heap.size w w' := by
  by_cases h0 : m = 0
  · subst h0
    have e : wds 0 = [] := rfl
    rw [e]
    go_enter Tryz.func165, Tryz.ntmps165
    go_wp2
    go_ret
    exact ⟨by simp, (Below.refl _ _).alloc (Nat.le_refl _) _⟩
  · rw [wds_pos h0] at hA ⊢
    obtain ⟨ad, rfl, k, hl⟩ := hA.one
    have k' := cell_alloc k (.cells #[.bool false, .slice (some ad) 1 c] 211)
    go_enter Tryz.func165, Tryz.ntmps165
    go_wp2
    go_ret
    refine ⟨?_, (Below.refl _ _).alloc (Nat.le_refl _) _⟩
    show Ending.returned (.bool ((m : Int) == 1)) = _
    congr 2
    by_cases h1 : m = 1
    · subst h1; rfl
    · rw [decide_eq_false h1]; simp; omega
theorem signed_any (x : Bool) (A : Option Addr) (c : Nat) (w : World) :
    Calls Tryz.prog 233 #[.bool x, .slice A 1 c] w fun e w' => e = .returned (.agg #[.bool x, .slice A 1 c]) ∧ Below w.heap.size w w' := by
  cases x
  all_goals
    go_enter Tryz.func233, Tryz.ntmps233
    go_wp2
    exact bodyPost_ret (v := .agg #[.bool _, .slice A 1 c]) (by simp [results, Tryz.results233, go_sem]) rfl ⟨rfl, (Below.refl _ _).alloc (Nat.le_refl _) _⟩
theorem neg_any (x : Bool) (A : Option Addr) (c : Nat) (w : World) :
    Calls Tryz.prog 216 #[.agg #[.bool x, .slice A 1 c]] w fun e w' => e = .returned (.agg #[.bool (!x), .slice A 1 c]) ∧ Below w.heap.size w w' := by
  have hbA : Below w.heap.size w ((w.alloc (.cells #[.bool x, .slice A 1 c] 211)).alloc (.cells #[.bool false, .slice none 0 0] 211)) :=
    ((Below.refl _ _).alloc (Nat.le_refl _) _).alloc (by simp) _
  go_enter Tryz.func216, Tryz.ntmps216
  go_wp2_with (go_at_call 233; refine (signed_any _ A c _).mono ?_; rintro e w1 ⟨rfl, h3⟩
               have B4 : Blk w1 (w.heap.size + 1) 211 #[.bool false, .slice none 0 0] := by
                 have := (Blk.new (w.alloc (.cells #[.bool x, .slice A 1 c] 211)) 211 #[.bool false, .slice none 0 0]).keep h3 (by simp)
                 simpa using this
               have q0 := B4.cell 0
               have q1 := B4.cell 1
               have f0 := B4.frozen 0
               have f1 := B4.frozen 1
               clear B4
               simp at q0 q1)
  exact bodyPost_ret (v := .agg #[.bool (!x), .slice A 1 c]) (by simp [results, Tryz.results216, go_sem, q0, q1]) rfl ⟨rfl, (((hbA.trans (h3.mono (by simp; omega))).setCell (by simp) _).setCell (by simp) _)⟩
theorem iszero_any (x : Bool) (A : Option Addr) (n c : Nat) (w : World) :
    Calls Tryz.prog 217 #[.agg #[.bool x, .slice A n c]] w fun e w' => e = .returned (.bool (decide (n = 0))) ∧ Below w.heap.size w w' := by
  go_enter Tryz.func217, Tryz.ntmps217
  go_wp2
  go_ret
  refine ⟨?_, (Below.refl _ _).alloc (Nat.le_refl _) _⟩
  show Ending.returned (.bool ((n : Int) == 0)) = _
  congr 2
  by_cases h1 : n = 0
  · subst h1; rfl
  · rw [decide_eq_false h1]; simp; omega
end Go.Proofs.Tg
