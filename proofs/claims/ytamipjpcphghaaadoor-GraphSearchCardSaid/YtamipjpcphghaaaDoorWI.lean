/- Chordal and Extend. -/
import Derived.Test.YtamipjpcphghaaaDoorWH
import Derived.Test.YtamipjpcphghaaaDoorSpecE
namespace Go.Gr
theorem readAll_small (es : List (Int × Int)) (n : Int) (h : valid n es) : Small (readAll es) ∧ Irr (readAll es) := by
  obtain ⟨_, hn, hv⟩ := h
  have : ∀ k, k ≤ es.length → Small (readAll (es.take k)) ∧ Irr (readAll (es.take k)) := by
    intro k
    induction k with
    | zero => exact fun _ => ⟨by simp [readAll]; exact Small.zero, by simp [readAll]; exact Irr.zero⟩
    | succ k ih =>
      intro hk
      obtain ⟨h1, h2⟩ := ih (by omega)
      obtain ⟨⟨g1, g2, g3⟩, _⟩ := hv k (by omega) (by omega)
      have e : readAll (es.take (k + 1)) = connect (readAll (es.take k)) es[k].1.toNat es[k].2.toNat := by
        unfold readAll
        rw [List.take_succ_eq_append_getElem (by omega), List.foldl_append]
        rfl
      rw [e]
      exact ⟨h1.connect (by omega) (by omega), h2.connect (by omega)⟩
  have := this es.length (Nat.le_refl _)
  rwa [List.take_length] at this
end Go.Gr
namespace Go.Proofs.Tg
open Go.RowKit Go.Gr
set_option maxHeartbeats 1000000
set_option maxRecDepth 100000
/-- A row that is stored whole into a new variable. -/
theorem blk_setRow {w : World} {g : Nat} {t : TypeId} {old : Array Value} (h : Blk w g t old) (cs : Array Value) : Blk (w.setRow g cs) g t cs := setRow_heap w g old cs t (0, 0) h
theorem blk_setRow_far {w : World} {g g' : Nat} {t : TypeId} {cs' : Array Value} (h : Blk w g t cs') (hne : g ≠ g') (cs : Array Value) : Blk (w.setRow g' cs) g t cs' := (setRow_other w g' g cs hne).trans h
theorem chordal_ok (n : Nat) (E : Option Addr) (c : Nat) (es : List (Int × Int)) (w : World) (hE : EdgesAt w E es) (hl : es.length ≤ 1000000) (hv : valid n es) (hT : Tab w) :
    Calls Tryd.prog 28 #[.agg #[.int .i64 n, .slice E es.length c]] w fun e w' => e = .returned (.tuple #[.bool (isChordal (readAll es) n), .int .i64 0]) ∧ Below w.heap.size w w' := by
  have hr := read_all n E c es true (w.alloc (.cells #[.int .i64 n, .slice E es.length c] 25)) (hE.keep ((Below.refl _ _).alloc (Nat.le_refl _) _)) hl (by simp [hv])
  have hsm := (readAll_small es n hv).1
  have hn : n ≤ 64 := by have := hv.2.1; omega
  have hbA : Below w.heap.size w (w.alloc (.cells #[.int .i64 n, .slice E es.length c] 25)) := (Below.refl _ _).alloc (Nat.le_refl _) _
  have hB := Blk.new w 25 #[.int .i64 n, .slice E es.length c]
  have HR := Lib.hid hr
  have HB := Lib.hid hB
  clear hr hv hB
  go_enter Tryd.func28, Tryd.ntmps28
  go_wp2_with (first
    | (go_at_call 47; refine HR.out.mono ?_; rintro e w1 ⟨A, hAs, rfl, hAe, hb1⟩; obtain rfl := hAe rfl; clear hAe)
    | (refine adj_alloc _ _ _ _ ?_)
    | (refine wpList_store_row rfl 56 (.tmp 4) (.tmp 9) rfl w1.heap.size (adjA (readAll es)) rfl rfl 56 (adjA fun _ => 0) (Blk.new w1 56 _) (size56 _) (by simp only [adjA_size]) (adj_one _) ?_
       have hA1 := blk_setRow (Blk.new w1 56 (adjA fun _ => 0)) (adjA (readAll es))
       have hB1 := blk_setRow_far (Blk.alloc (HB.out.keep hb1 (Blk.lt HB.out)) (.cells (adjA fun _ => 0) 56)) (g' := w1.heap.size) (by have := hb1.size; simp at this; omega) (adjA (readAll es))
       have hbw := below_setRow ((hbA.trans (hb1.mono (by simp))).alloc (by have := hb1.size; simp at this; omega) (.cells (adjA fun _ => 0) 56)) (g := w1.heap.size) (by have := hb1.size; simp at this; omega) (adjA (readAll es))
       have c0 := hB1.cell 0
       simp at c0
       generalize (w1.alloc (.cells (adjA fun _ => 0) 56)).setRow w1.heap.size (adjA (readAll es)) = W at hA1 hB1 hbw c0 ⊢)
    | (go_at_call 48; refine (chordalA_any _ _ (readAll es) _ hA1 hsm hn (hT.below hbw hT.1)).mono ?_; rintro e w2 ⟨rfl, hb2⟩))
  go_ret2
  exact ⟨rfl, below_all hbw hb2⟩
theorem chordal_bad (n : Int) (E : Option Addr) (c : Nat) (es : List (Int × Int)) (w : World) (hE : EdgesAt w E es) (hl : es.length ≤ 1000000) (hv : ¬ valid n es) :
    Calls Tryd.prog 28 #[.agg #[.int .i64 n, .slice E es.length c]] w fun e w' => e = .returned (.tuple #[.bool false, .int .i64 1]) ∧ Below w.heap.size w w' := by
  have hr := read_all n E c es false (w.alloc (.cells #[.int .i64 n, .slice E es.length c] 25)) (hE.keep ((Below.refl _ _).alloc (Nat.le_refl _) _)) hl (by simp [hv])
  have hbA : Below w.heap.size w (w.alloc (.cells #[.int .i64 n, .slice E es.length c] 25)) := (Below.refl _ _).alloc (Nat.le_refl _) _
  have HR := Lib.hid hr
  clear hr hv
  go_enter Tryd.func28, Tryd.ntmps28
  go_wp2_with (first
    | (go_at_call 47; refine HR.out.mono ?_; rintro e w1 ⟨A, hAs, rfl, -, hb1⟩)
    | (refine adj_alloc _ _ _ _ ?_)
    | (refine wpList_store_row rfl 56 (.tmp 4) (.tmp 9) rfl w1.heap.size (adjA A) rfl rfl 56 (adjA fun _ => 0) (Blk.new w1 56 _) (size56 _) (by simp only [adjA_size]) (adj_one _) ?_
       have hbw := below_setRow ((hbA.trans (hb1.mono (by simp))).alloc (by have := hb1.size; simp at this; omega) (.cells (adjA fun _ => 0) 56)) (g := w1.heap.size) (by have := hb1.size; simp at this; omega) (adjA A)
       generalize (w1.alloc (.cells (adjA fun _ => 0) 56)).setRow w1.heap.size (adjA A) = W at hbw ⊢))
  go_ret2
  exact ⟨rfl, hbw⟩
end Go.Proofs.Tg
