/- The frame, more: a graph as an argument. -/
import Derived.Test.YtamipjpcphghaaaDoorFr
namespace Go.Proofs.YtamipjpcphghaaaDoor.Fr
open Go.ChangeShapes Go.WideShapes Go.ChangeAt Go.RowKit Go.Deep Go.Proofs.Tg Go.Gr
set_option maxRecDepth 100000
section
variable {H : Type} {enc : TypeId × Value → H} {W : World}
theorem edges_of_cells {fuel : Nat} {cs : List Value} {x : DataW H × List MemPlace} (h : DataW.trod enc Tryd.prog W 0 (fun _ => true) true fuel 22 cs = some x) : ∃ E es c, cs = [.slice E (List.length es) c] ∧ EdgesAt W E es := by
  rcases open_slice Tryd.underlying22 h with ⟨h1, _⟩ | ⟨a, len, cap, m, k, D, Pl, h1, _, hl, _, hm, h2, hx⟩
  · subst h1
    exact ⟨none, [], 0, rfl, Sl.nil _ _ _⟩
  · subst h1
    simp only [if_true] at hm
    rw [hm] at h2 hx
    have each : ∀ i, i < len → ∃ q : Int × Int, W.cell? (a.add (i * 2)) = some (.int .i64 q.1) ∧ W.cell? (a.add (i * 2 + 1)) = some (.int .i64 q.2) := by
      intro i hi
      obtain ⟨cs', g1, g2⟩ := hx i (by omega)
      rw [cells46] at g1
      obtain ⟨_, hlen, hcell⟩ := World.cells?_some g1
      obtain ⟨xs, k', _, _, _, hxl, hf⟩ := DataW.trod_array Tryd.underlying46 g2
      match xs, hxl, cs', hlen with
      | [y0, y1], _, [v0, v1], _ =>
        have g0 := hf 0 (by omega)
        have g1' := hf 1 (by omega)
        rw [cells3] at g0 g1'
        simp at g0 g1'
        obtain ⟨n0, e0, _⟩ := DataW.trod_int Tryd.underlying3 g0
        obtain ⟨n1, e1, _⟩ := DataW.trod_int Tryd.underlying3 g1'
        have c0 := hcell 0 (by omega)
        have c1 := hcell 1 (by omega)
        rw [Deep.add_add] at c0 c1
        simp at e0 e1 c0 c1
        subst e0 e1
        exact ⟨(n0, n1), c0, c1⟩
    obtain ⟨q, hq⟩ := choose_lt each
    refine ⟨some a, (List.range len).map q, cap, by simp, by simp [ecells_len], fun hn => ⟨a, rfl, ?_, ?_⟩⟩
    · have hn' : 0 < len := by simpa using hn
      exact (World.block_lt_of_cell? W _ (hq 0 hn').1)
    · intro j u hu
      have hj : j < len * 2 := by
        have := (List.getElem?_eq_some_iff.1 hu).1
        rw [ecells_len] at this
        simpa using this
      have key : ∀ n, n ≤ len → ∀ j, j < n * 2 → (ecells ((List.range n).map q))[j]? = if j % 2 = 0 then some (vi (q (j / 2)).1) else some (vi (q (j / 2)).2) := by
        intro n
        induction n with
        | zero => intro _ j hj; omega
        | succ n ih =>
          intro hn j hj
          rw [List.range_succ, List.map_append, ecells_app]
          by_cases hlt : j < n * 2
          · rw [List.getElem?_append_left (by rw [ecells_len]; simpa using hlt), ih (by omega) j hlt]
          · rw [List.getElem?_append_right (by rw [ecells_len]; simpa using hlt), ecells_len]
            simp only [List.length_map, List.length_range, ecells, List.map_cons, List.map_nil, List.flatMap_cons, List.flatMap_nil, List.append_nil]
            have : j = n * 2 ∨ j = n * 2 + 1 := by omega
            rcases this with e | e
            · subst e
              rw [show n * 2 - n * 2 = 0 from by omega, show n * 2 / 2 = n from by omega, if_pos (by omega)]; rfl
            · subst e
              rw [show n * 2 + 1 - n * 2 = 1 from by omega, show (n * 2 + 1) / 2 = n from by omega, if_neg (by omega)]; rfl
      rw [key len (Nat.le_refl _) j hj] at hu
      by_cases hm2 : j % 2 = 0
      · rw [if_pos hm2] at hu
        injection hu with hu
        subst hu
        have := (hq (j / 2) (by omega)).1
        rwa [show j / 2 * 2 = j from by omega] at this
      · rw [if_neg hm2] at hu
        injection hu with hu
        subst hu
        have := (hq (j / 2) (by omega)).2
        rwa [show j / 2 * 2 + 1 = j from by omega] at this
theorem cells22 : Tryd.prog.cellsOf 22 = 1 := by kernel_rfl
/-- A graph, opened. -/
theorem open_graph {v : Value} {d : DataW H} {ps : List MemPlace} {b0 : Nat} (hval : Value.okWide Tryd.prog W .any b0 25 v) (h : DataW.Trod enc Tryd.prog W 0 (fun _ => true) true 25 v d ps) :
    ∃ n E es c, v = .agg #[.int .i64 n, .slice E (List.length es) c] ∧ EdgesAt W E es := by
  obtain ⟨cs, rfl, hsz⟩ := okWide_struct Tryd.underlying25 hval
  obtain ⟨fuel, h⟩ := h
  have hcs : (Value.agg cs).cells.toList = cs.toList := rfl
  rw [hcs] at h
  obtain ⟨xs, k, _, _, hlen, hxl, hf⟩ := DataW.trod_struct Tryd.underlying25 h
  have g0 := hf 0 { name := "N", type := 3, offset := 0, embedded := false, tag := "", pkgPath := "", byteOffset := 0 } rfl
  have g1 := hf 1 { name := "Edges", type := 22, offset := 1, embedded := false, tag := "", pkgPath := "", byteOffset := 8 } rfl
  have hc2 : cs.toList.length = 2 := by rw [hlen]; kernel_rfl
  obtain ⟨l⟩ := cs
  match l, hc2, xs, hxl with
  | [a, b], _, [y0, y1], _ =>
    have g0' : DataW.trod enc Tryd.prog W 0 (fun _ => true) true k 3 [a] = some y0 := by
      have := g0
      dsimp only at this
      rw [cells3] at this
      exact this
    have g1' : DataW.trod enc Tryd.prog W 0 (fun _ => true) true k 22 [b] = some y1 := by
      have := g1
      dsimp only at this
      rw [cells22] at this
      exact this
    obtain ⟨n, e0, _⟩ := DataW.trod_int Tryd.underlying3 g0'
    obtain ⟨E, es, c, e1, hE⟩ := edges_of_cells g1'
    injection e0 with e0
    injection e1 with e1
    subst e0 e1
    exact ⟨n, E, es, c, rfl, hE⟩
end
end Go.Proofs.YtamipjpcphghaaaDoor.Fr
