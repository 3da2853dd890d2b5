/- The statements' sanity check: the chapter's first two examples. -/
import Derived.Test.YtamipjpcphghaaaDoorWJ
import Derived.Test.YtamipjpcphghaaaDoorWN
import Derived.Test.YtamipjpcphghaaaDoorWP
import Derived.Test.YtamipjpcphghaaaDoorWQ
namespace Go.Gr
def es0 : List (Int × Int) := [(0, 1), (2, 1), (2, 3), (3, 0), (0, 1)]
def es1 : List (Int × Int) := [(0, 1), (0, 3), (1, 2), (2, 3)]
def es2 : List (Int × Int) := [(0, 1), (0, 3), (1, 2), (1, 3), (2, 3)]
theorem w1 : writeEdges (readAll es0) 4 = es1 := by decide +kernel
theorem w2 : writeEdges (extend (readAll es1) 4) 4 = es2 := by decide +kernel
theorem ch1 : isChordal (readAll es1) 4 = false := by decide +kernel
theorem ch2 : isChordal (readAll es2) 4 = true := by decide +kernel
theorem cl2 : (keepLast (cands (readAll es2) 4)).map vertsI = [[0, 1, 3], [1, 2, 3]] := by decide +kernel
theorem tr2 : tree ([[0, 1, 3], [1, 2, 3]].map setOf) = [-1, 0] := by decide +kernel
theorem v1 : valid 4 es1 := by
  refine ⟨by omega, by omega, fun i hi _ => ?_⟩
  have h4 : i < 4 := hi
  have : i = 0 ∨ i = 1 ∨ i = 2 ∨ i = 3 := by omega
  rcases this with rfl | rfl | rfl | rfl <;> exact ⟨⟨by simp [es1], by simp [es1], by simp [es1]⟩, fun h0 => by first | exact absurd h0 (by omega) | simp [es1, cmpE, orI, cmpI]⟩
theorem v2 : valid 4 es2 := by
  refine ⟨by omega, by omega, fun i hi _ => ?_⟩
  have h4 : i < 5 := hi
  have : i = 0 ∨ i = 1 ∨ i = 2 ∨ i = 3 ∨ i = 4 := by omega
  rcases this with rfl | rfl | rfl | rfl | rfl <;> exact ⟨⟨by simp [es2], by simp [es2], by simp [es2]⟩, fun h0 => by first | exact absurd h0 (by omega) | simp [es2, cmpE, orI, cmpI]⟩
theorem r0 : rangeOk 4 es0 ∧ ∀ x ∈ es0, x.1 ≠ x.2 := by
  refine ⟨⟨by omega, fun e he => ?_⟩, by decide⟩
  simp only [es0, List.mem_cons, List.not_mem_nil, or_false] at he
  rcases he with rfl | rfl | rfl | rfl | rfl <;> exact ⟨by decide, by decide, by decide, by decide⟩
theorem two_sorted {ls : List (List Int)} (hp : ls.Perm [[0, 1, 3], [1, 2, 3]]) (hs : Go.Proofs.Tg.sortedL ls) : ls = [[0, 1, 3], [1, 2, 3]] := by
  have hl := hp.length_eq
  match ls, hl with
  | [x, y], _ =>
    have hx : x = [0, 1, 3] ∨ x = [1, 2, 3] := by have := hp.mem_iff.1 (show x ∈ [x, y] by simp); simpa using this
    have hy : y = [0, 1, 3] ∨ y = [1, 2, 3] := by have := hp.mem_iff.1 (show y ∈ [x, y] by simp); simpa using this
    have h0 := hs 0 1 (by omega) (by simp)
    have m1 : [0, 1, 3] ∈ [x, y] := hp.mem_iff.2 (by simp)
    have m2 : [1, 2, 3] ∈ [x, y] := hp.mem_iff.2 (by simp)
    rcases hx with rfl | rfl <;> rcases hy with rfl | rfl
    · exact absurd m2 (by decide)
    · rfl
    · exact absurd h0 (by decide)
    · exact absurd m1 (by decide)
end Go.Gr
namespace Go.Proofs.Tg
open Go.RowKit Go.Gr
set_option maxHeartbeats 1000000
set_option maxRecDepth 100000
theorem sl_blk {w : World} {g n sz : Nat} {t : TypeId} {xs : List Value} (h : Blk w g t xs.toArray) (hl : xs.length = n * sz) : Sl w (some ⟨g, 0, none⟩) n sz xs :=
  ⟨hl, fun _ => ⟨_, rfl, h.lt, fun j u hu => by rw [add_lit, Nat.zero_add, h.cell j, List.getElem?_toArray]; exact hu⟩⟩
theorem aw_make (W : World) (g : Nat) (hB : Blk W g 46 (ecells es0).toArray) (hT : Tab W) :
    Calls Tryd.prog 13 #[.int .i64 4, .slice (some ⟨g, 0, none⟩) 5 5] W fun e w' => ∃ F d, e = .returned (.tuple #[.agg #[.int .i64 4, .slice F 4 d], .int .i64 0]) ∧ EdgesAt w' F es1 ∧ Below W.heap.size W w' := by
  refine (make_any 4 (some ⟨g, 0, none⟩) 5 es0 W (sl_blk hB rfl) (by decide) hT).mono fun e w' h => ?_
  rcases h with ⟨h1, _⟩ | ⟨_, ⟨x, hx, he⟩, _⟩ | ⟨_, _, F, d, h1, h2, h3⟩
  · exact absurd r0.1 h1
  · exact absurd he (r0.2 x hx)
  · have e1 : writeEdges (readAll es0) (4 : Int).toNat = es1 := w1
    rw [e1] at h1 h2
    exact ⟨F, d, h1, Sl.own h2, h3⟩
theorem aw_chordal (W : World) (F : Option Addr) (d : Nat) (hE : EdgesAt W F es1) (hT : Tab W) :
    Calls Tryd.prog 28 #[.agg #[.int .i64 4, .slice F 4 d]] W fun e w' => e = .returned (.tuple #[.bool false, .int .i64 0]) ∧ Below W.heap.size W w' := by
  have h := chordal_ok 4 F d es1 W hE (by decide) v1 hT
  rw [ch1] at h
  exact h
theorem aw_extend (W : World) (F : Option Addr) (d : Nat) (hE : EdgesAt W F es1) (hT : Tab W) :
    Calls Tryd.prog 25 #[.agg #[.int .i64 4, .slice F 4 d]] W fun e w' => ∃ F d, e = .returned (.tuple #[.agg #[.int .i64 4, .slice F 5 d], .int .i64 0]) ∧ EdgesAt w' F es2 ∧ Below W.heap.size W w' := by
  have h := extend_ok 4 F d es1 W hE (by decide) v1 hT
  rw [w2] at h
  exact h.mono fun e w' ⟨F, d, h1, h2, h3⟩ => ⟨F, d, h1, Sl.own h2, h3⟩
theorem aw_cliques (W : World) (F : Option Addr) (d : Nat) (hE : EdgesAt W F es2) (hT : Tab W) :
    Calls Tryd.prog 18 #[.agg #[.int .i64 4, .slice F 5 d]] W fun e w' => ∃ V d, e = .returned (.tuple #[.slice V 2 d, .int .i64 0]) ∧ Lists w' V [[0, 1, 3], [1, 2, 3]] ∧ Below W.heap.size W w' := by
  refine (cliques_ok 4 F d es2 W hE (by decide) v2 hT ch2 (by omega)).mono fun e w' ⟨V, d, ls, h1, h2, h3, h4, h5⟩ => ?_
  rw [cl2] at h3
  obtain rfl := two_sorted h3 h4
  exact ⟨V, d, h1, h2, h5⟩
theorem aw_tree (W : World) (V : Option Addr) (d : Nat) (hV : Lists W V [[0, 1, 3], [1, 2, 3]]) :
    Calls Tryd.prog 22 #[.slice V 2 d] W fun e w' => ∃ A c, e = .returned (.tuple #[.slice A 2 c, .int .i64 0]) ∧ Ints w' A [-1, 0] ∧ Below W.heap.size W w' := by
  have hasc : ∀ l ∈ ([[0, 1, 3], [1, 2, 3]] : List (List Int)), 0 < l.length ∧ asc l := by
    intro l hl
    simp only [List.mem_cons, List.not_mem_nil, or_false] at hl
    rcases hl with rfl | rfl
    all_goals
      refine ⟨by decide, fun i hi _ => ?_⟩
      have h3 : i < 3 := hi
      have : i = 0 ∨ i = 1 ∨ i = 2 := by omega
      rcases this with rfl | rfl | rfl <;> exact ⟨⟨by simp, by simp⟩, fun h0 => by first | exact absurd h0 (by omega) | simp⟩
  refine (tree_ok V d [[0, 1, 3], [1, 2, 3]] W hV (by decide) (by simp) hasc).mono fun e w' ⟨A, c, h1, h2, h3⟩ => ?_
  rw [tr2] at h2
  exact ⟨A, c, h1, Sl.own h2, h3⟩
theorem aw_lists (W : World) (V : Option Addr) (c g1 g2 g3 : Nat) (hV : Lists W V [[0, 1, 3], [1, 2, 3]]) (h1 : Blk W g1 3 #[.int .i64 0, .int .i64 1, .int .i64 3]) (h2 : Blk W g2 3 #[.int .i64 1, .int .i64 2, .int .i64 3])
    (h3 : Blk W g3 40 #[.slice (some ⟨g1, 0, none⟩) 3 3, .slice (some ⟨g2, 0, none⟩) 3 3]) :
    Calls Tryd.prog 20 #[.slice V 2 c, .slice (some ⟨g3, 0, none⟩) 2 2] W fun e w' => e = .returned (.bool true) ∧ Below W.heap.size W w' := by
  have hL : Lists W (some ⟨g3, 0, none⟩) [[0, 1, 3], [1, 2, 3]] := by
    refine ⟨fun i => if i = 0 then (some ⟨g1, 0, none⟩, 3) else (some ⟨g2, 0, none⟩, 3), sl_blk h3 rfl, fun i hi => ?_⟩
    have : i = 0 ∨ i = 1 := by simp at hi; omega
    rcases this with rfl | rfl
    · exact sl_blk h1 rfl
    · exact sl_blk h2 rfl
  exact (lists_any V _ [[0, 1, 3], [1, 2, 3]] [[0, 1, 3], [1, 2, 3]] c 2 W hV hL (by decide) (by simp)).mono fun e w' h => ⟨by rw [h.1]; rfl, h.2.below⟩
theorem aw_ints (W : World) (A : Option Addr) (c g : Nat) (hA : Ints W A [-1, 0]) (h : Blk W g 3 #[.int .i64 (-1), .int .i64 0]) :
    Calls Tryd.prog 24 #[.slice A 2 c, .slice (some ⟨g, 0, none⟩) 2 2] W fun e w' => e = .returned (.bool true) ∧ Below W.heap.size W w' :=
  (ints_any A _ [-1, 0] [-1, 0] c 2 W hA (sl_blk h rfl) (by decide)).mono fun e w' h => ⟨by rw [h.1]; rfl, h.2.below⟩
end Go.Proofs.Tg
