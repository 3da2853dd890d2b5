/- Adjacent and Neighbors. -/
import Derived.Test.YtamipjpcphghaaaDoorWU
namespace Go.Proofs.Tg
open Go.RowKit Go.Gr
set_option maxHeartbeats 1000000
set_option maxRecDepth 100000
theorem adj_in (n : Nat) (E : Option Addr) (c : Nat) (es : List (Int × Int)) (i j : Nat) (w : World) (hE : EdgesAt w E es) (hl : es.length ≤ 1000000) (hv : valid n es) (hi : i < n) (hj : j < n) :
    Calls Tryd.prog 27 #[.agg #[.int .i64 n, .slice E es.length c], .int .i64 i, .int .i64 j] w fun e w' => e = .returned (.bool ((readAll es i).testBit j)) ∧ Below w.heap.size w w' := by
  have hr := read_all n E c es true (w.alloc (.cells #[.int .i64 n, .slice E es.length c] 25)) (hE.keep ((Below.refl _ _).alloc (Nat.le_refl _) _)) hl (by simp [hv])
  have hsm := (readAll_small es n hv).1
  have hn : n ≤ 64 := by have := hv.2.1; omega
  have hbA : Below w.heap.size w (w.alloc (.cells #[.int .i64 n, .slice E es.length c] 25)) := (Below.refl _ _).alloc (Nat.le_refl _) _
  have hB := Blk.new w 25 #[.int .i64 n, .slice E es.length c]
  have HR := Lib.hid hr
  have HB := Lib.hid hB
  clear hr hv hB
  have d1 : decide ((0 : Int) ≤ (i : Int)) = true := by simp
  have d2 : decide ((i : Int) < (n : Int)) = true := by simp; omega
  have d3 : decide ((0 : Int) ≤ (j : Int)) = true := by simp
  have d4 : decide ((j : Int) < (n : Int)) = true := by simp; omega
  have hs1 := hsm i
  go_enter Tryd.func27, Tryd.ntmps27
  go_wp2_with (first
    | (go_at_call 47; refine HR.out.mono ?_; rintro e w1 ⟨A, hAs, rfl, hAe, hb1⟩; obtain rfl := hAe rfl; clear hAe)
    | (refine adj_alloc _ _ _ _ ?_)
    | (refine wpList_store_row rfl 56 (.tmp 7) (.tmp 12) rfl w1.heap.size (adjA (readAll es)) rfl rfl 56 (adjA fun _ => 0) (Blk.new w1 56 _) (size56 _) (by simp only [adjA_size]) (adj_one _) ?_
       have hA1 := blk_setRow (Blk.new w1 56 (adjA fun _ => 0)) (adjA (readAll es))
       have hB1 := blk_setRow_far (Blk.alloc (HB.out.keep hb1 (Blk.lt HB.out)) (.cells (adjA fun _ => 0) 56)) (g' := w1.heap.size) (by have := hb1.size; simp at this; omega) (adjA (readAll es))
       have hbw := below_setRow ((hbA.trans (hb1.mono (by simp))).alloc (by have := hb1.size; simp at this; omega) (.cells (adjA fun _ => 0) 56)) (g := w1.heap.size) (by have := hb1.size; simp at this; omega) (adjA (readAll es))
       have c0 := hB1.cell 0
       simp at c0
       have ci := AdjAt.cell hA1 (show i < 64 by omega)
       generalize (w1.alloc (.cells (adjA fun _ => 0) 56)).setRow w1.heap.size (adjA (readAll es)) = W at hA1 hB1 hbw c0 ci ⊢)
    | (go_at_call 60; refine (has_any _ _ _ hs1 (by omega)).mono ?_; rintro e w2 ⟨rfl, rfl⟩))
  go_ret
  exact ⟨rfl, hbw⟩
theorem adj_out (n : Nat) (E : Option Addr) (c : Nat) (es : List (Int × Int)) (i j : Int) (w : World) (hE : EdgesAt w E es) (hl : es.length ≤ 1000000) (hv : valid n es) (hij : ¬ (0 ≤ i ∧ i < n ∧ 0 ≤ j ∧ j < n)) :
    Calls Tryd.prog 27 #[.agg #[.int .i64 n, .slice E es.length c], .int .i64 i, .int .i64 j] w fun e w' => e = .returned (.bool false) ∧ Below w.heap.size w w' := by
  have hr := read_all n E c es true (w.alloc (.cells #[.int .i64 n, .slice E es.length c] 25)) (hE.keep ((Below.refl _ _).alloc (Nat.le_refl _) _)) hl (by simp [hv])
  have hsm := (readAll_small es n hv).1
  have hn : n ≤ 64 := by have := hv.2.1; omega
  have hbA : Below w.heap.size w (w.alloc (.cells #[.int .i64 n, .slice E es.length c] 25)) := (Below.refl _ _).alloc (Nat.le_refl _) _
  have hB := Blk.new w 25 #[.int .i64 n, .slice E es.length c]
  have HR := Lib.hid hr
  have HB := Lib.hid hB
  clear hr hv hB
  by_cases h1 : 0 ≤ i
  · have d1 : decide (0 ≤ i) = true := by simpa using h1
    by_cases h2 : i < n
    · have d2 : decide (i < (n : Int)) = true := by simpa using h2
      by_cases h3 : 0 ≤ j
      · have d3 : decide (0 ≤ j) = true := by simpa using h3
        have d4 : decide (j < (n : Int)) = false := by simp; omega
        clear hij
        go_enter Tryd.func27, Tryd.ntmps27
        go_wp2_with (first
          | (go_at_call 47; refine HR.out.mono ?_; rintro e w1 ⟨A, hAs, rfl, hAe, hb1⟩; obtain rfl := hAe rfl; clear hAe)
          | (refine adj_alloc _ _ _ _ ?_)
          | (refine wpList_store_row rfl 56 (.tmp 7) (.tmp 12) rfl w1.heap.size (adjA (readAll es)) rfl rfl 56 (adjA fun _ => 0) (Blk.new w1 56 _) (size56 _) (by simp only [adjA_size]) (adj_one _) ?_
             have hA1 := blk_setRow (Blk.new w1 56 (adjA fun _ => 0)) (adjA (readAll es))
             have hB1 := blk_setRow_far (Blk.alloc (HB.out.keep hb1 (Blk.lt HB.out)) (.cells (adjA fun _ => 0) 56)) (g' := w1.heap.size) (by have := hb1.size; simp at this; omega) (adjA (readAll es))
             have hbw := below_setRow ((hbA.trans (hb1.mono (by simp))).alloc (by have := hb1.size; simp at this; omega) (.cells (adjA fun _ => 0) 56)) (g := w1.heap.size) (by have := hb1.size; simp at this; omega) (adjA (readAll es))
             have c0 := hB1.cell 0
             simp at c0
             generalize (w1.alloc (.cells (adjA fun _ => 0) 56)).setRow w1.heap.size (adjA (readAll es)) = W at hA1 hB1 hbw c0 ⊢))
        go_ret
        exact ⟨rfl, hbw⟩
      · have d3 : decide (0 ≤ j) = false := by simpa using h3
        clear hij
        go_enter Tryd.func27, Tryd.ntmps27
        go_wp2_with (first
          | (go_at_call 47; refine HR.out.mono ?_; rintro e w1 ⟨A, hAs, rfl, hAe, hb1⟩; obtain rfl := hAe rfl; clear hAe)
          | (refine adj_alloc _ _ _ _ ?_)
          | (refine wpList_store_row rfl 56 (.tmp 7) (.tmp 12) rfl w1.heap.size (adjA (readAll es)) rfl rfl 56 (adjA fun _ => 0) (Blk.new w1 56 _) (size56 _) (by simp only [adjA_size]) (adj_one _) ?_
             have hA1 := blk_setRow (Blk.new w1 56 (adjA fun _ => 0)) (adjA (readAll es))
             have hB1 := blk_setRow_far (Blk.alloc (HB.out.keep hb1 (Blk.lt HB.out)) (.cells (adjA fun _ => 0) 56)) (g' := w1.heap.size) (by have := hb1.size; simp at this; omega) (adjA (readAll es))
             have hbw := below_setRow ((hbA.trans (hb1.mono (by simp))).alloc (by have := hb1.size; simp at this; omega) (.cells (adjA fun _ => 0) 56)) (g := w1.heap.size) (by have := hb1.size; simp at this; omega) (adjA (readAll es))
             have c0 := hB1.cell 0
             simp at c0
             generalize (w1.alloc (.cells (adjA fun _ => 0) 56)).setRow w1.heap.size (adjA (readAll es)) = W at hA1 hB1 hbw c0 ⊢))
        go_ret
        exact ⟨rfl, hbw⟩
    · have d2 : decide (i < (n : Int)) = false := by simpa using h2
      clear hij
      go_enter Tryd.func27, Tryd.ntmps27
      go_wp2_with (first
        | (go_at_call 47; refine HR.out.mono ?_; rintro e w1 ⟨A, hAs, rfl, hAe, hb1⟩; obtain rfl := hAe rfl; clear hAe)
        | (refine adj_alloc _ _ _ _ ?_)
        | (refine wpList_store_row rfl 56 (.tmp 7) (.tmp 12) rfl w1.heap.size (adjA (readAll es)) rfl rfl 56 (adjA fun _ => 0) (Blk.new w1 56 _) (size56 _) (by simp only [adjA_size]) (adj_one _) ?_
           have hA1 := blk_setRow (Blk.new w1 56 (adjA fun _ => 0)) (adjA (readAll es))
           have hB1 := blk_setRow_far (Blk.alloc (HB.out.keep hb1 (Blk.lt HB.out)) (.cells (adjA fun _ => 0) 56)) (g' := w1.heap.size) (by have := hb1.size; simp at this; omega) (adjA (readAll es))
           have hbw := below_setRow ((hbA.trans (hb1.mono (by simp))).alloc (by have := hb1.size; simp at this; omega) (.cells (adjA fun _ => 0) 56)) (g := w1.heap.size) (by have := hb1.size; simp at this; omega) (adjA (readAll es))
           have c0 := hB1.cell 0
           simp at c0
           generalize (w1.alloc (.cells (adjA fun _ => 0) 56)).setRow w1.heap.size (adjA (readAll es)) = W at hA1 hB1 hbw c0 ⊢))
      go_ret
      exact ⟨rfl, hbw⟩
  · have d1 : decide (0 ≤ i) = false := by simpa using h1
    clear hij
    go_enter Tryd.func27, Tryd.ntmps27
    go_wp2_with (first
      | (go_at_call 47; refine HR.out.mono ?_; rintro e w1 ⟨A, hAs, rfl, hAe, hb1⟩; obtain rfl := hAe rfl; clear hAe)
      | (refine adj_alloc _ _ _ _ ?_)
      | (refine wpList_store_row rfl 56 (.tmp 7) (.tmp 12) rfl w1.heap.size (adjA (readAll es)) rfl rfl 56 (adjA fun _ => 0) (Blk.new w1 56 _) (size56 _) (by simp only [adjA_size]) (adj_one _) ?_
         have hA1 := blk_setRow (Blk.new w1 56 (adjA fun _ => 0)) (adjA (readAll es))
         have hB1 := blk_setRow_far (Blk.alloc (HB.out.keep hb1 (Blk.lt HB.out)) (.cells (adjA fun _ => 0) 56)) (g' := w1.heap.size) (by have := hb1.size; simp at this; omega) (adjA (readAll es))
         have hbw := below_setRow ((hbA.trans (hb1.mono (by simp))).alloc (by have := hb1.size; simp at this; omega) (.cells (adjA fun _ => 0) 56)) (g := w1.heap.size) (by have := hb1.size; simp at this; omega) (adjA (readAll es))
         have c0 := hB1.cell 0
         simp at c0
         generalize (w1.alloc (.cells (adjA fun _ => 0) 56)).setRow w1.heap.size (adjA (readAll es)) = W at hA1 hB1 hbw c0 ⊢))
    go_ret
    exact ⟨rfl, hbw⟩
theorem adj_bad (n : Int) (E : Option Addr) (c : Nat) (es : List (Int × Int)) (i j : Int) (w : World) (hE : EdgesAt w E es) (hl : es.length ≤ 1000000) (hv : ¬ valid n es) :
    Calls Tryd.prog 27 #[.agg #[.int .i64 n, .slice E es.length c], .int .i64 i, .int .i64 j] w fun e w' => e = .returned (.bool false) ∧ Below w.heap.size w w' := by
  have hr := read_all n E c es false (w.alloc (.cells #[.int .i64 n, .slice E es.length c] 25)) (hE.keep ((Below.refl _ _).alloc (Nat.le_refl _) _)) hl (by simp [hv])
  have hbA : Below w.heap.size w (w.alloc (.cells #[.int .i64 n, .slice E es.length c] 25)) := (Below.refl _ _).alloc (Nat.le_refl _) _
  have HR := Lib.hid hr
  clear hr hv
  go_enter Tryd.func27, Tryd.ntmps27
  go_wp2_with (first
    | (go_at_call 47; refine HR.out.mono ?_; rintro e w1 ⟨A, hAs, rfl, -, hb1⟩)
    | (refine adj_alloc _ _ _ _ ?_)
    | (refine wpList_store_row rfl 56 (.tmp 7) (.tmp 12) rfl w1.heap.size (adjA A) rfl rfl 56 (adjA fun _ => 0) (Blk.new w1 56 _) (size56 _) (by simp only [adjA_size]) (adj_one _) ?_
       have hbw := below_setRow ((hbA.trans (hb1.mono (by simp))).alloc (by have := hb1.size; simp at this; omega) (.cells (adjA fun _ => 0) 56)) (g := w1.heap.size) (by have := hb1.size; simp at this; omega) (adjA A)
       generalize (w1.alloc (.cells (adjA fun _ => 0) 56)).setRow w1.heap.size (adjA A) = W at hbw ⊢))
  go_ret
  exact ⟨rfl, hbw⟩
/-- What Adjacent answers. -/
def adjB (n : Int) (es : List (Int × Int)) (i j : Int) : Prop := valid n es ∧ (0 ≤ i ∧ i < n ∧ 0 ≤ j ∧ j < n) ∧ (readAll es i.toNat).testBit j.toNat = true
theorem adj_any (n : Int) (E : Option Addr) (c : Nat) (es : List (Int × Int)) (i j : Int) (b : Bool) (w : World) (hE : EdgesAt w E es) (hl : es.length ≤ 1000000) (hb : b = true ↔ adjB n es i j) :
    Calls Tryd.prog 27 #[.agg #[.int .i64 n, .slice E es.length c], .int .i64 i, .int .i64 j] w fun e w' => e = .returned (.bool b) ∧ Below w.heap.size w w' := by
  by_cases hv : valid n es
  · obtain ⟨m, rfl⟩ := Int.eq_ofNat_of_zero_le hv.1
    by_cases hij : 0 ≤ i ∧ i < m ∧ 0 ≤ j ∧ j < m
    · obtain ⟨i, rfl⟩ := Int.eq_ofNat_of_zero_le hij.1
      obtain ⟨j, rfl⟩ := Int.eq_ofNat_of_zero_le hij.2.2.1
      have e : b = (readAll es i).testBit j := by
        rw [Bool.eq_iff_iff, hb]
        exact ⟨fun h => h.2.2, fun h => ⟨hv, hij, h⟩⟩
      rw [e]
      exact adj_in m E c es i j w hE hl hv (by omega) (by omega)
    · obtain rfl : b = false := by
        cases b
        · rfl
        · exact absurd (hb.1 rfl).2.1 hij
      exact adj_out m E c es i j w hE hl hv hij
  · obtain rfl : b = false := by
      cases b
      · rfl
      · exact absurd (hb.1 rfl).1 hv
    exact adj_bad n E c es i j w hE hl hv
theorem neighbors_bad (n : Int) (E : Option Addr) (c : Nat) (es : List (Int × Int)) (i : Int) (w : World) (hE : EdgesAt w E es) (hl : es.length ≤ 1000000) (hv : ¬ valid n es) :
    Calls Tryd.prog 38 #[.agg #[.int .i64 n, .slice E es.length c], .int .i64 i] w fun e w' => e = .returned (.slice none 0 0) ∧ Below w.heap.size w w' := by
  have hr := read_all n E c es false (w.alloc (.cells #[.int .i64 n, .slice E es.length c] 25)) (hE.keep ((Below.refl _ _).alloc (Nat.le_refl _) _)) hl (by simp [hv])
  have hbA : Below w.heap.size w (w.alloc (.cells #[.int .i64 n, .slice E es.length c] 25)) := (Below.refl _ _).alloc (Nat.le_refl _) _
  have HR := Lib.hid hr
  clear hr hv
  go_enter Tryd.func38, Tryd.ntmps38
  go_wp2_with (first
    | (go_at_call 47; refine HR.out.mono ?_; rintro e w1 ⟨A, hAs, rfl, -, hb1⟩)
    | (refine adj_alloc _ _ _ _ ?_)
    | (refine wpList_store_row rfl 56 (.tmp 5) (.tmp 10) rfl w1.heap.size (adjA A) rfl rfl 56 (adjA fun _ => 0) (Blk.new w1 56 _) (size56 _) (by simp only [adjA_size]) (adj_one _) ?_
       have hbw := below_setRow ((hbA.trans (hb1.mono (by simp))).alloc (by have := hb1.size; simp at this; omega) (.cells (adjA fun _ => 0) 56)) (g := w1.heap.size) (by have := hb1.size; simp at this; omega) (adjA A)
       generalize (w1.alloc (.cells (adjA fun _ => 0) 56)).setRow w1.heap.size (adjA A) = W at hbw ⊢))
  go_ret
  exact ⟨rfl, hbw⟩
theorem neighbors_out (n : Nat) (E : Option Addr) (c : Nat) (es : List (Int × Int)) (i : Int) (w : World) (hE : EdgesAt w E es) (hl : es.length ≤ 1000000) (hv : valid n es) (hi : ¬ (0 ≤ i ∧ i < n)) :
    Calls Tryd.prog 38 #[.agg #[.int .i64 n, .slice E es.length c], .int .i64 i] w fun e w' => e = .returned (.slice none 0 0) ∧ Below w.heap.size w w' := by
  have hr := read_all n E c es true (w.alloc (.cells #[.int .i64 n, .slice E es.length c] 25)) (hE.keep ((Below.refl _ _).alloc (Nat.le_refl _) _)) hl (by simp [hv])
  have hsm := (readAll_small es n hv).1
  have hn : n ≤ 64 := by have := hv.2.1; omega
  have hbA : Below w.heap.size w (w.alloc (.cells #[.int .i64 n, .slice E es.length c] 25)) := (Below.refl _ _).alloc (Nat.le_refl _) _
  have hB := Blk.new w 25 #[.int .i64 n, .slice E es.length c]
  have HR := Lib.hid hr
  have HB := Lib.hid hB
  clear hr hv hB
  by_cases h1 : i < 0
  · have d1 : decide (i < 0) = true := by simpa using h1
    clear hi
    go_enter Tryd.func38, Tryd.ntmps38
    go_wp2_with (first
      | (go_at_call 47; refine HR.out.mono ?_; rintro e w1 ⟨A, hAs, rfl, hAe, hb1⟩; obtain rfl := hAe rfl; clear hAe)
      | (refine adj_alloc _ _ _ _ ?_)
      | (refine wpList_store_row rfl 56 (.tmp 5) (.tmp 10) rfl w1.heap.size (adjA (readAll es)) rfl rfl 56 (adjA fun _ => 0) (Blk.new w1 56 _) (size56 _) (by simp only [adjA_size]) (adj_one _) ?_
         have hA1 := blk_setRow (Blk.new w1 56 (adjA fun _ => 0)) (adjA (readAll es))
         have hB1 := blk_setRow_far (Blk.alloc (HB.out.keep hb1 (Blk.lt HB.out)) (.cells (adjA fun _ => 0) 56)) (g' := w1.heap.size) (by have := hb1.size; simp at this; omega) (adjA (readAll es))
         have hbw := below_setRow ((hbA.trans (hb1.mono (by simp))).alloc (by have := hb1.size; simp at this; omega) (.cells (adjA fun _ => 0) 56)) (g := w1.heap.size) (by have := hb1.size; simp at this; omega) (adjA (readAll es))
         have c0 := hB1.cell 0
         simp at c0
         generalize (w1.alloc (.cells (adjA fun _ => 0) 56)).setRow w1.heap.size (adjA (readAll es)) = W at hA1 hB1 hbw c0 ⊢))
    go_ret
    exact ⟨rfl, hbw⟩
  · have d1 : decide (i < 0) = false := by simpa using h1
    have d2 : decide ((n : Int) ≤ i) = true := by simp; omega
    clear hi
    go_enter Tryd.func38, Tryd.ntmps38
    go_wp2_with (first
      | (go_at_call 47; refine HR.out.mono ?_; rintro e w1 ⟨A, hAs, rfl, hAe, hb1⟩; obtain rfl := hAe rfl; clear hAe)
      | (refine adj_alloc _ _ _ _ ?_)
      | (refine wpList_store_row rfl 56 (.tmp 5) (.tmp 10) rfl w1.heap.size (adjA (readAll es)) rfl rfl 56 (adjA fun _ => 0) (Blk.new w1 56 _) (size56 _) (by simp only [adjA_size]) (adj_one _) ?_
         have hA1 := blk_setRow (Blk.new w1 56 (adjA fun _ => 0)) (adjA (readAll es))
         have hB1 := blk_setRow_far (Blk.alloc (HB.out.keep hb1 (Blk.lt HB.out)) (.cells (adjA fun _ => 0) 56)) (g' := w1.heap.size) (by have := hb1.size; simp at this; omega) (adjA (readAll es))
         have hbw := below_setRow ((hbA.trans (hb1.mono (by simp))).alloc (by have := hb1.size; simp at this; omega) (.cells (adjA fun _ => 0) 56)) (g := w1.heap.size) (by have := hb1.size; simp at this; omega) (adjA (readAll es))
         have c0 := hB1.cell 0
         simp at c0
         generalize (w1.alloc (.cells (adjA fun _ => 0) 56)).setRow w1.heap.size (adjA (readAll es)) = W at hA1 hB1 hbw c0 ⊢))
    go_ret
    exact ⟨rfl, hbw⟩
theorem neighbors_in (n : Nat) (E : Option Addr) (c : Nat) (es : List (Int × Int)) (i : Nat) (w : World) (hE : EdgesAt w E es) (hl : es.length ≤ 1000000) (hv : valid n es) (hi : i < n) (hT : Tab w) :
    Calls Tryd.prog 38 #[.agg #[.int .i64 n, .slice E es.length c], .int .i64 i] w fun e w' => ∃ A d, e = .returned (.slice A (verts (readAll es i)).length d) ∧ Nats w' A (verts (readAll es i)) ∧ Below w.heap.size w w' := by
  have hr := read_all n E c es true (w.alloc (.cells #[.int .i64 n, .slice E es.length c] 25)) (hE.keep ((Below.refl _ _).alloc (Nat.le_refl _) _)) hl (by simp [hv])
  have hsm := (readAll_small es n hv).1
  have hn : n ≤ 64 := by have := hv.2.1; omega
  have hbA : Below w.heap.size w (w.alloc (.cells #[.int .i64 n, .slice E es.length c] 25)) := (Below.refl _ _).alloc (Nat.le_refl _) _
  have hB := Blk.new w 25 #[.int .i64 n, .slice E es.length c]
  have HR := Lib.hid hr
  have HB := Lib.hid hB
  clear hr hv hB
  have d1 : decide ((i : Int) < 0) = false := by simp
  have d2 : decide ((n : Int) ≤ (i : Int)) = false := by simp; omega
  have d2' : decide (n ≤ i) = false := by simp; omega
  have hs1 := hsm i
  go_enter Tryd.func38, Tryd.ntmps38
  go_wp2_with (first
    | (go_at_call 47; refine HR.out.mono ?_; rintro e w1 ⟨A, hAs, rfl, hAe, hb1⟩; obtain rfl := hAe rfl; clear hAe)
    | (refine adj_alloc _ _ _ _ ?_)
    | (refine wpList_store_row rfl 56 (.tmp 5) (.tmp 10) rfl w1.heap.size (adjA (readAll es)) rfl rfl 56 (adjA fun _ => 0) (Blk.new w1 56 _) (size56 _) (by simp only [adjA_size]) (adj_one _) ?_
       have hA1 := blk_setRow (Blk.new w1 56 (adjA fun _ => 0)) (adjA (readAll es))
       have hB1 := blk_setRow_far (Blk.alloc (HB.out.keep hb1 (Blk.lt HB.out)) (.cells (adjA fun _ => 0) 56)) (g' := w1.heap.size) (by have := hb1.size; simp at this; omega) (adjA (readAll es))
       have hbw := below_setRow ((hbA.trans (hb1.mono (by simp))).alloc (by have := hb1.size; simp at this; omega) (.cells (adjA fun _ => 0) 56)) (g := w1.heap.size) (by have := hb1.size; simp at this; omega) (adjA (readAll es))
       have c0 := hB1.cell 0
       simp at c0
       have ci := AdjAt.cell hA1 (show i < 64 by omega)
       generalize (w1.alloc (.cells (adjA fun _ => 0) 56)).setRow w1.heap.size (adjA (readAll es)) = W at hA1 hB1 hbw c0 ci ⊢)
    | (go_at_call 54; refine (verts_any _ _ hs1 (hT.below hbw hT.1)).mono ?_; rintro e w2 ⟨Vv, dv, rfl, hdv, hVv, hb2⟩))
  go_ret
  exact ⟨Vv, dv, rfl, Sl.own hVv, below_all hbw hb2⟩
end Go.Proofs.Tg
