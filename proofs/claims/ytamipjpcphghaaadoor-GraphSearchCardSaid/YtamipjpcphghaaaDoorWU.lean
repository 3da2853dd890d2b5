/- Valid, Adjacent, Neighbors, Order; Extend and Cliques where they refuse; the statements' has. -/
import Derived.Test.YtamipjpcphghaaaDoorWN
import Derived.Test.YtamipjpcphghaaaDoorWP
namespace Go.Proofs.Tg
open Go.RowKit Go.Gr
set_option maxHeartbeats 1000000
set_option maxRecDepth 100000
theorem valid_any (n : Int) (E : Option Addr) (c : Nat) (es : List (Int × Int)) (b : Bool) (w : World) (hE : EdgesAt w E es) (hl : es.length ≤ 1000000) (hv : b = true ↔ valid n es) :
    Calls Tryd.prog 29 #[.agg #[.int .i64 n, .slice E es.length c]] w fun e w' => e = .returned (.bool b) ∧ Below w.heap.size w w' := by
  have hr := read_all n E c es b (w.alloc (.cells #[.int .i64 n, .slice E es.length c] 25)) (hE.keep ((Below.refl _ _).alloc (Nat.le_refl _) _)) hl hv
  have hbA : Below w.heap.size w (w.alloc (.cells #[.int .i64 n, .slice E es.length c] 25)) := (Below.refl _ _).alloc (Nat.le_refl _) _
  have HR := Lib.hid hr
  clear hr hv
  go_enter Tryd.func29, Tryd.ntmps29
  go_wp2_with (first
    | (go_at_call 47; refine HR.out.mono ?_; rintro e w1 ⟨A, hAs, rfl, -, hb1⟩)
    | (refine adj_alloc _ _ _ _ ?_)
    | (refine wpList_store_row rfl 56 (.tmp 3) (.tmp 8) rfl w1.heap.size (adjA A) rfl rfl 56 (adjA fun _ => 0) (Blk.new w1 56 _) (size56 _) (by simp only [adjA_size]) (adj_one _) ?_
       have hbw := below_setRow ((hbA.trans (hb1.mono (by simp))).alloc (by have := hb1.size; simp at this; omega) (.cells (adjA fun _ => 0) 56)) (g := w1.heap.size) (by have := hb1.size; simp at this; omega) (adjA A)
       generalize (w1.alloc (.cells (adjA fun _ => 0) 56)).setRow w1.heap.size (adjA A) = W at hbw ⊢))
  go_ret
  exact ⟨rfl, hbw⟩
theorem order_ok (n : Nat) (E : Option Addr) (c : Nat) (es : List (Int × Int)) (w : World) (hE : EdgesAt w E es) (hl : es.length ≤ 1000000) (hv : valid n es) :
    Calls Tryd.prog 32 #[.agg #[.int .i64 n, .slice E es.length c]] w fun e w' => ∃ A d, e = .returned (.tuple #[.slice A (search (readAll es) n).length d, .int .i64 0]) ∧ Nats w' A (search (readAll es) n) ∧ Below w.heap.size w w' := by
  have hr := read_all n E c es true (w.alloc (.cells #[.int .i64 n, .slice E es.length c] 25)) (hE.keep ((Below.refl _ _).alloc (Nat.le_refl _) _)) hl (by simp [hv])
  have hsm := (readAll_small es n hv).1
  have hn : n ≤ 64 := by have := hv.2.1; omega
  have hbA : Below w.heap.size w (w.alloc (.cells #[.int .i64 n, .slice E es.length c] 25)) := (Below.refl _ _).alloc (Nat.le_refl _) _
  have hB := Blk.new w 25 #[.int .i64 n, .slice E es.length c]
  have HR := Lib.hid hr
  have HB := Lib.hid hB
  clear hr hv hB
  go_enter Tryd.func32, Tryd.ntmps32
  go_wp2_with (first
    | (go_at_call 47; refine HR.out.mono ?_; rintro e w1 ⟨A, hAs, rfl, hAe, hb1⟩; obtain rfl := hAe rfl; clear hAe)
    | (refine adj_alloc _ _ _ _ ?_)
    | (refine wpList_store_row rfl 56 (.tmp 4) (.tmp 9) rfl w1.heap.size (adjA (readAll es)) rfl rfl 56 (adjA fun _ => 0) (Blk.new w1 56 _) (size56 _) (by simp only [adjA_size]) (adj_one _) ?_
       have hA1 := blk_setRow (Blk.new w1 56 (adjA fun _ => 0)) (adjA (readAll es))
       have hB1 := blk_setRow_far (Blk.alloc (HB.out.keep hb1 (Blk.lt HB.out)) (.cells (adjA fun _ => 0) 56)) (g' := w1.heap.size) (by have := hb1.size; simp at this; omega) (adjA (readAll es))
       have hbw := below_setRow ((hbA.trans (hb1.mono (by simp))).alloc (by have := hb1.size; simp at this; omega) (.cells (adjA fun _ => 0) 56)) (g := w1.heap.size) (by have := hb1.size; simp at this; omega) (adjA (readAll es))
       have c0 := hB1.cell 0
       simp at c0
       generalize (w1.alloc (.cells (adjA fun _ => 0) 56)).setRow w1.heap.size (adjA (readAll es)) = W at hA1 hB1 hbw c0 ⊢)
    | (go_at_call 49; refine (search_any _ _ (readAll es) _ hA1 hsm hn).mono ?_; rintro e w2 ⟨Vv, dv, rfl, hdv, hVv, hb2⟩))
  go_ret2
  exact ⟨Vv, dv, rfl, Sl.own hVv, below_all hbw hb2⟩
theorem order_bad (n : Int) (E : Option Addr) (c : Nat) (es : List (Int × Int)) (w : World) (hE : EdgesAt w E es) (hl : es.length ≤ 1000000) (hv : ¬ valid n es) :
    Calls Tryd.prog 32 #[.agg #[.int .i64 n, .slice E es.length c]] w fun e w' => e = .returned (.tuple #[.slice none 0 0, .int .i64 1]) ∧ Below w.heap.size w w' := by
  have hr := read_all n E c es false (w.alloc (.cells #[.int .i64 n, .slice E es.length c] 25)) (hE.keep ((Below.refl _ _).alloc (Nat.le_refl _) _)) hl (by simp [hv])
  have hbA : Below w.heap.size w (w.alloc (.cells #[.int .i64 n, .slice E es.length c] 25)) := (Below.refl _ _).alloc (Nat.le_refl _) _
  have HR := Lib.hid hr
  clear hr hv
  go_enter Tryd.func32, Tryd.ntmps32
  go_wp2_with (first
    | (go_at_call 47; refine HR.out.mono ?_; rintro e w1 ⟨A, hAs, rfl, -, hb1⟩)
    | (refine adj_alloc _ _ _ _ ?_)
    | (refine wpList_store_row rfl 56 (.tmp 4) (.tmp 9) rfl w1.heap.size (adjA A) rfl rfl 56 (adjA fun _ => 0) (Blk.new w1 56 _) (size56 _) (by simp only [adjA_size]) (adj_one _) ?_
       have hbw := below_setRow ((hbA.trans (hb1.mono (by simp))).alloc (by have := hb1.size; simp at this; omega) (.cells (adjA fun _ => 0) 56)) (g := w1.heap.size) (by have := hb1.size; simp at this; omega) (adjA A)
       generalize (w1.alloc (.cells (adjA fun _ => 0) 56)).setRow w1.heap.size (adjA A) = W at hbw ⊢))
  go_ret2
  exact ⟨rfl, hbw⟩
theorem components_bad (n : Int) (E : Option Addr) (c : Nat) (es : List (Int × Int)) (w : World) (hE : EdgesAt w E es) (hl : es.length ≤ 1000000) (hv : ¬ valid n es) :
    Calls Tryd.prog 30 #[.agg #[.int .i64 n, .slice E es.length c]] w fun e w' => e = .returned (.tuple #[.slice none 0 0, .int .i64 1]) ∧ Below w.heap.size w w' := by
  have hr := read_all n E c es false (w.alloc (.cells #[.int .i64 n, .slice E es.length c] 25)) (hE.keep ((Below.refl _ _).alloc (Nat.le_refl _) _)) hl (by simp [hv])
  have hbA : Below w.heap.size w (w.alloc (.cells #[.int .i64 n, .slice E es.length c] 25)) := (Below.refl _ _).alloc (Nat.le_refl _) _
  have HR := Lib.hid hr
  clear hr hv
  go_enter Tryd.func30, Tryd.ntmps30
  go_wp2_with (first
    | (go_at_call 47; refine HR.out.mono ?_; rintro e w1 ⟨A, hAs, rfl, -, hb1⟩)
    | (refine adj_alloc _ _ _ _ ?_)
    | (refine wpList_store_row rfl 56 (.tmp 4) (.tmp 17) rfl w1.heap.size (adjA A) rfl rfl 56 (adjA fun _ => 0) (Blk.new w1 56 _) (size56 _) (by simp only [adjA_size]) (adj_one _) ?_
       have hbw := below_setRow ((hbA.trans (hb1.mono (by simp))).alloc (by have := hb1.size; simp at this; omega) (.cells (adjA fun _ => 0) 56)) (g := w1.heap.size) (by have := hb1.size; simp at this; omega) (adjA A)
       generalize (w1.alloc (.cells (adjA fun _ => 0) 56)).setRow w1.heap.size (adjA A) = W at hbw ⊢))
  go_ret2
  exact ⟨rfl, hbw⟩
theorem cliques_bad (n : Int) (E : Option Addr) (c : Nat) (es : List (Int × Int)) (w : World) (hE : EdgesAt w E es) (hl : es.length ≤ 1000000) (hv : ¬ valid n es) :
    Calls Tryd.prog 18 #[.agg #[.int .i64 n, .slice E es.length c]] w fun e w' => e = .returned (.tuple #[.slice none 0 0, .int .i64 1]) ∧ Below w.heap.size w w' := by
  have hr := read_all n E c es false (w.alloc (.cells #[.int .i64 n, .slice E es.length c] 25)) (hE.keep ((Below.refl _ _).alloc (Nat.le_refl _) _)) hl (by simp [hv])
  have hbA : Below w.heap.size w (w.alloc (.cells #[.int .i64 n, .slice E es.length c] 25)) := (Below.refl _ _).alloc (Nat.le_refl _) _
  have HR := Lib.hid hr
  clear hr hv
  go_enter Tryd.func18, Tryd.ntmps18
  go_wp2_with (first
    | (go_at_call 47; refine HR.out.mono ?_; rintro e w1 ⟨A, hAs, rfl, -, hb1⟩)
    | (refine adj_alloc _ _ _ _ ?_)
    | (refine wpList_store_row rfl 56 (.tmp 4) (.tmp 17) rfl w1.heap.size (adjA A) rfl rfl 56 (adjA fun _ => 0) (Blk.new w1 56 _) (size56 _) (by simp only [adjA_size]) (adj_one _) ?_
       have hbw := below_setRow ((hbA.trans (hb1.mono (by simp))).alloc (by have := hb1.size; simp at this; omega) (.cells (adjA fun _ => 0) 56)) (g := w1.heap.size) (by have := hb1.size; simp at this; omega) (adjA A)
       generalize (w1.alloc (.cells (adjA fun _ => 0) 56)).setRow w1.heap.size (adjA A) = W at hbw ⊢))
  go_ret2
  exact ⟨rfl, hbw⟩
theorem cliques_state (n : Nat) (E : Option Addr) (c : Nat) (es : List (Int × Int)) (w : World) (hE : EdgesAt w E es) (hl : es.length ≤ 1000000) (hv : valid n es) (hT : Tab w) (hc : isChordal (readAll es) n = false) :
    Calls Tryd.prog 18 #[.agg #[.int .i64 n, .slice E es.length c]] w fun e w' => e = .returned (.tuple #[.slice none 0 0, .int .i64 11]) ∧ Below w.heap.size w w' := by
  have hr := read_all n E c es true (w.alloc (.cells #[.int .i64 n, .slice E es.length c] 25)) (hE.keep ((Below.refl _ _).alloc (Nat.le_refl _) _)) hl (by simp [hv])
  have hsm := (readAll_small es n hv).1
  have hn : n ≤ 64 := by have := hv.2.1; omega
  have hbA : Below w.heap.size w (w.alloc (.cells #[.int .i64 n, .slice E es.length c] 25)) := (Below.refl _ _).alloc (Nat.le_refl _) _
  have hB := Blk.new w 25 #[.int .i64 n, .slice E es.length c]
  have HR := Lib.hid hr
  have HB := Lib.hid hB
  have HC := Lib.hid hc
  clear hr hv hB hc
  go_enter Tryd.func18, Tryd.ntmps18
  go_wp2_with (first
    | (go_at_call 47; refine HR.out.mono ?_; rintro e w1 ⟨A, hAs, rfl, hAe, hb1⟩; obtain rfl := hAe rfl; clear hAe)
    | (refine adj_alloc _ _ _ _ ?_)
    | (refine wpList_store_row rfl 56 (.tmp 4) (.tmp 17) rfl w1.heap.size (adjA (readAll es)) rfl rfl 56 (adjA fun _ => 0) (Blk.new w1 56 _) (size56 _) (by simp only [adjA_size]) (adj_one _) ?_
       have hA1 := blk_setRow (Blk.new w1 56 (adjA fun _ => 0)) (adjA (readAll es))
       have hB1 := blk_setRow_far (Blk.alloc (HB.out.keep hb1 (Blk.lt HB.out)) (.cells (adjA fun _ => 0) 56)) (g' := w1.heap.size) (by have := hb1.size; simp at this; omega) (adjA (readAll es))
       have hbw := below_setRow ((hbA.trans (hb1.mono (by simp))).alloc (by have := hb1.size; simp at this; omega) (.cells (adjA fun _ => 0) 56)) (g := w1.heap.size) (by have := hb1.size; simp at this; omega) (adjA (readAll es))
       have c0 := hB1.cell 0
       simp at c0
       generalize (w1.alloc (.cells (adjA fun _ => 0) 56)).setRow w1.heap.size (adjA (readAll es)) = W at hA1 hB1 hbw c0 ⊢)
    | (go_at_call 48; refine (chordalA_any _ _ (readAll es) _ hA1 hsm hn (hT.below hbw hT.1)).mono ?_; rintro e w2 ⟨he, hb2⟩; rw [HC.out] at he; subst he))
  go_ret2
  exact ⟨rfl, below_all hbw hb2⟩
theorem extend_bad (n : Int) (E : Option Addr) (c : Nat) (es : List (Int × Int)) (w : World) (hE : EdgesAt w E es) (hl : es.length ≤ 1000000) (hv : ¬ valid n es) :
    Calls Tryd.prog 25 #[.agg #[.int .i64 n, .slice E es.length c]] w fun e w' => e = .returned (.tuple #[zeroG, .int .i64 1]) ∧ Below w.heap.size w w' := by
  have hbA : Below w.heap.size w ((w.alloc (.cells #[.int .i64 n, .slice E es.length c] 25)).alloc (.cells #[.int .i64 0, .slice none 0 0] 25)) := ((Below.refl _ _).alloc (Nat.le_refl _) _).alloc (by simp) _
  have hr := read_all n E c es false ((w.alloc (.cells #[.int .i64 n, .slice E es.length c] 25)).alloc (.cells #[.int .i64 0, .slice none 0 0] 25)) (hE.keep hbA) hl (by simp [hv])
  have hB : Blk ((w.alloc (.cells #[.int .i64 n, .slice E es.length c] 25)).alloc (.cells #[.int .i64 0, .slice none 0 0] 25)) (w.heap.size + 1) 25 #[.int .i64 0, .slice none 0 0] := by
    have := Blk.new (w.alloc (.cells #[.int .i64 n, .slice E es.length c] 25)) 25 #[.int .i64 0, .slice none 0 0]
    simpa using this
  have HR := Lib.hid hr
  have HB := Lib.hid hB
  clear hr hv hB
  go_enter Tryd.func25, Tryd.ntmps25
  go_wp2_with (first
    | (go_at_call 47; refine HR.out.mono ?_; rintro e w1 ⟨A, hAs, rfl, -, hb1⟩)
    | (refine adj_alloc _ _ _ _ ?_)
    | (refine wpList_store_row rfl 56 (.tmp 4) (.tmp 18) rfl w1.heap.size (adjA A) rfl rfl 56 (adjA fun _ => 0) (Blk.new w1 56 _) (size56 _) (by simp only [adjA_size]) (adj_one _) ?_
       have hB1 := blk_setRow_far (Blk.alloc (HB.out.keep hb1 (Blk.lt HB.out)) (.cells (adjA fun _ => 0) 56)) (g' := w1.heap.size) (by have := hb1.size; simp at this; omega) (adjA A)
       have hbw := below_setRow ((hbA.trans (hb1.mono (by simp; omega))).alloc (by have := hb1.size; simp at this; omega) (.cells (adjA fun _ => 0) 56)) (g := w1.heap.size) (by have := hb1.size; simp at this; omega) (adjA A)
       have c0 := hB1.cell 0
       have c1 := hB1.cell 1
       have f0 := hB1.frozen 0
       have f1 := hB1.frozen 1
       simp at c0 c1
       generalize (w1.alloc (.cells (adjA fun _ => 0) 56)).setRow w1.heap.size (adjA A) = W at hB1 hbw c0 c1 f0 f1 ⊢))
  refine bodyPost_ret (v := .tuple #[zeroG, .int .i64 1]) (results_g (p := 2) (q := 3) rfl _ _ (w.heap.size + 1) _ _ rfl (blk_two hB1)) rfl ?_
  exact ⟨rfl, (hbw.setCell (by simp) _).setCell (by simp) _⟩
theorem has_list (A : Option Addr) (c : Nat) (l : List Int) (x : Int) (b : Bool) (w : World) (hA : Ints w A l) (hl : l.length ≤ 1000000) (hv : b = true ↔ x ∈ l) :
    Calls Tryd.prog 26 #[.slice A l.length c, .int .i64 x] w fun e w' => e = .returned (.bool b) ∧ w = w' := by
  have HV := Lib.hid hv
  clear hv
  go_enter Tryd.func26, Tryd.ntmps26
  go_wp2
  go_loop [5] (fun i => ∃ k : Nat, i = .int .i64 k ∧ k ≤ l.length ∧ Hid (x ∉ l.take k)) (fun i => l.length - (intOf i).toNat)
  case atStart => exact ⟨0, rfl, Nat.zero_le _, Lib.hid (by simp)⟩
  case round =>
    obtain ⟨k, rfl, hk, HN⟩ := hrel
    by_cases hkl : k < l.length
    · obtain ⟨ad, rfl, hc⟩ := Ints.at hA hkl
      have HT : Hid (l.take (k + 1) = l.take k ++ [l[k]]) := Lib.hid (List.take_succ_eq_append_getElem hkl)
      have HM : Hid (l[k] ∈ l) := Lib.hid (List.getElem_mem _)
      generalize l[k] = y at hc HT HM
      by_cases hy : y = x
      · subst hy
        obtain rfl : b = true := HV.out.2 HM.out
        go_wp2
        go_ret
        exact ⟨rfl, rfl⟩
      · have hb : (y == x) = false := by simpa using hy
        have HN2 : Hid (x ∉ l.take (k + 1)) := Lib.hid (by
          rw [HT.out]
          intro h
          rcases List.mem_append.1 h with h | h
          · exact HN.out h
          · simp at h; exact hy h.symm)
        clear hy
        go_wp2
        go_round
        case rel => exact ⟨k + 1, by go_num, by omega, HN2⟩
        case measure => simp [intOf]; omega
    · obtain rfl : k = l.length := by omega
      obtain rfl : b = false := by
        cases b
        · rfl
        · have h1 := HV.out.1 rfl
          have h2 := HN.out
          rw [List.take_length] at h2
          exact absurd h1 h2
      go_wp2
      go_ret
      exact ⟨rfl, rfl⟩
end Go.Proofs.Tg
