/- The frame of this seat's statements: what the reading of an argument says of memory, the listed table, the row's last step, the world of the witness. -/
import Derived.Test.YtamipjpcphghaaaDoorCards
import Derived.Test.YtamipjpcphghaaaDoorTie
import Derived.Test.YtamipjpcphghaaaDoorWK
import Derived.ProofKit
import Derived.OpenShut
import Derived.Carry
import Derived.Deep.Slices
import Derived.Deep.Matrix
import Derived.Deep.DeepHandedRow
import Derived.Lib.LaidTab
namespace Go.Proofs.YtamipjpcphghaaaDoor.Fr
open Go.ChangeShapes Go.WideShapes Go.ChangeAt Go.RowKit Go.Deep Go.Proofs.Tg Go.Gr
set_option maxRecDepth 100000
section
variable {H : Type} {enc : TypeId × Value → H} {W W' : World}
theorem trodAll_below (hl : laidOutB Tryd.prog = true) (hb : Below W.heap.size W W') : ∀ (ts : List TypeId) (vs : List Value) (ds : List (DataW H)) (ps : List MemPlace),
    (∀ t ∈ ts, Tryd.prog.readableRec t = true ∧ t < Tryd.prog.types.size) → DataW.TrodAll enc Tryd.prog W 0 (fun _ => true) true ts vs ds ps → (∀ x ∈ ps, x.block < W.heap.size) →
    DataW.TrodAll enc Tryd.prog W' 0 (fun b => decide (b < W.heap.size)) true ts vs ds ps
  | [], [], [], ps, _, h, _ => h
  | t :: ts, v :: vs, d :: ds, ps, ht, ⟨p, q, h1, h2, e⟩, hp => by
    subst e
    exact ⟨p, q, Below.trod hl (ht t (by simp)).1 (ht t (by simp)).2 h1 hb (fun x hx => hp x (by simp [hx])), trodAll_below hl hb ts vs ds q (fun t h => ht t (by simp [h])) h2 (fun x hx => hp x (by simp [hx])), rfl⟩
theorem laidOut : laidOutB Tryd.prog = true := by kernel_rfl
/-- A law that returned true and made new memory alone meets its row. -/
theorem post_law {f : Func} {s : ChangeSpec} {args : Array Value} {ds gs : List (DataW H)} {before : List MemPlace}
    (hW : DataW.Whole enc Tryd.prog f.params.toList s.vars false W args.toList ds gs before) (hv : s.vars = []) (hf : f.resultTypes = #[4])
    (hr : (s.fn H (ds ++ gs)).results = [.lit (.bool true)]) (ha : (s.fn H (ds ++ gs)).args = ds) (hg : (s.fn H (ds ++ gs)).vars = [])
    (hp : ∀ t ∈ f.params.toList, Tryd.prog.readableRec t = true ∧ t < Tryd.prog.types.size) (hb : Below W.heap.size W W') :
    s.post enc Tryd.prog f false true false false W args (.bool true) W' := by
  have hlt := hW.lt
  have hW2 := hW
  obtain ⟨p, q, hA, hV, hps, hz, hn⟩ := hW2
  rw [hv] at hV
  obtain ⟨rfl, rfl⟩ := trodVars_none hV
  rw [List.append_nil] at hps
  subst hps
  refine ⟨ds, [], before, [], before, [], hW, ?_, ?_, ?_, World.keptBut_mono (fun x hx => ⟨hx, .inr (.inl hx)⟩) (hb.frame (· ∈ before)), fun h => by cases h⟩
  · rw [hr, hf]
    exact trodAll_cons_mk (shut_bool Tryd.underlying4 _) trodAll_mk0
  · rw [ha]
    exact trodAll_below laidOut hb _ _ _ _ hp hA hlt
  · rw [hv, hg]; rfl
theorem gTab : Tryd.prog.globalNamed "math/bits.deBruijn64tab" = some 0 := by kernel_rfl
theorem gTabType : (Tryd.prog.globals[0]?).map (·.type) = some 94 := by kernel_rfl
theorem cells94 : Tryd.prog.cellsOf 94 = 64 := by kernel_rfl
theorem cells5 : Tryd.prog.cellsOf 5 = 1 := by kernel_rfl
theorem cells46 : Tryd.prog.cellsOf 46 = 2 := by kernel_rfl
theorem cells40 : Tryd.prog.cellsOf 40 = 1 := by kernel_rfl
theorem cells3 : Tryd.prog.cellsOf 3 = 1 := by kernel_rfl
def tabZ : List Int := Lib.deBruijn64tab.map fun x : Nat => (x : Int)
theorem tabZ_len : tabZ.length = 64 := by decide +kernel
theorem tab_data : (Rows.laid_math_bits_deBruijn64tab : DataW Unit) = Lib.tabData .u8 tabZ := by kernel_rfl
/-- What the row's list gives: the table's cells. -/
theorem tab_of (h : laidMetH Tryd.prog [("math/bits.deBruijn64tab", Rows.laid_math_bits_deBruijn64tab)] W) : Tab W := by
  rw [tab_data] at h
  have h1 : Lib.TabIs Tryd.prog W "math/bits.deBruijn64tab" .u8 tabZ := Lib.tabIs_of_head (rest := []) gTab gTabType Tryd.underlying94 Tryd.underlying5 cells5 cells94 h
  have hc : ∀ j, j < 64 → W.cell? ⟨0, j, none⟩ = some (.int .u8 (Lib.deBruijn64tab.getD j 0)) := by
    intro j hj
    rw [h1.cell gTab j (by rw [tabZ_len]; exact hj)]
    congr 2
    unfold tabZ
    simp only [List.getD_eq_getElem?_getD, List.getElem?_map]
    cases Lib.deBruijn64tab[j]? <;> simp
  exact ⟨World.block_lt_of_cell? W ⟨0, 0, none⟩ (hc 0 (by omega)), hc⟩
/-- A slice of pairs of numbers, opened. -/
theorem open_edges {v : Value} {d : DataW H} {ps : List MemPlace} {b0 : Nat} (hval : Value.okWide Tryd.prog W .any b0 22 v) (h : DataW.Trod enc Tryd.prog W 0 (fun _ => true) true 22 v d ps) :
    ∃ E es c, v = .slice E es.length c ∧ EdgesAt W E es := by
  obtain ⟨E, len, cap, rfl⟩ := okWide_slice Tryd.underlying22 hval
  obtain ⟨fuel, h⟩ := h
  have hcs : (Value.slice E len cap).cells.toList = [.slice E len cap] := by simp [Value.cells]
  rw [hcs] at h
  rcases open_slice Tryd.underlying22 h with ⟨h1, _⟩ | ⟨a, l, c, m, k, D, Pl, h1, _, hl, _, hm, h2, hx⟩
  · injection h1 with h1
    injection h1 with e1 e2 e3
    subst e1 e2 e3
    exact ⟨none, [], 0, rfl, Sl.nil _ _ _⟩
  · injection h1 with h1
    injection h1 with e1 e2 e3
    subst e1 e2 e3
    simp only [if_true] at hm
    rw [hm] at h2 hx
    have each : ∀ i, i < len → ∃ q : Int × Int, W.cell? (a.add (i * 2)) = some (.int .i64 q.1) ∧ W.cell? (a.add (i * 2 + 1)) = some (.int .i64 q.2) := by
      intro i hi
      obtain ⟨cs', g1, g2⟩ := hx i (by omega)
      rw [cells46] at g1
      obtain ⟨_, hlen, hcell⟩ := World.cells?_some g1
      obtain ⟨xs, k', _, _, _, hxl, hf⟩ := DataW.trod_array Tryd.underlying46 g2
      match xs, hxl, cs', hlen with
      | [y0, y1], _, [v0, v1], _ =>
        have g0 := hf 0 (by omega)
        have g1' := hf 1 (by omega)
        rw [cells3] at g0 g1'
        simp at g0 g1'
        obtain ⟨n0, e0, _⟩ := DataW.trod_int Tryd.underlying3 g0
        obtain ⟨n1, e1, _⟩ := DataW.trod_int Tryd.underlying3 g1'
        have c0 := hcell 0 (by omega)
        have c1 := hcell 1 (by omega)
        rw [Deep.add_add] at c0 c1
        simp at e0 e1 c0 c1
        subst e0 e1
        exact ⟨(n0, n1), c0, c1⟩
    obtain ⟨q, hq⟩ := choose_lt each
    refine ⟨some a, (List.range len).map q, cap, by simp, by simp [ecells_len], fun hn => ⟨a, rfl, ?_, ?_⟩⟩
    · have hn' : 0 < len := by simpa using hn
      exact (World.block_lt_of_cell? W _ (hq 0 hn').1)
    · intro j u hu
      have hj : j < len * 2 := by
        have := (List.getElem?_eq_some_iff.1 hu).1
        rw [ecells_len] at this
        simpa using this
      have key : ∀ n, n ≤ len → ∀ j, j < n * 2 → (ecells ((List.range n).map q))[j]? = if j % 2 = 0 then some (vi (q (j / 2)).1) else some (vi (q (j / 2)).2) := by
        intro n
        induction n with
        | zero => intro _ j hj; omega
        | succ n ih =>
          intro hn j hj
          rw [List.range_succ, List.map_append, ecells_app]
          by_cases hlt : j < n * 2
          · rw [List.getElem?_append_left (by rw [ecells_len]; simpa using hlt), ih (by omega) j hlt]
          · rw [List.getElem?_append_right (by rw [ecells_len]; simpa using hlt), ecells_len]
            simp only [List.length_map, List.length_range, ecells, List.map_cons, List.map_nil, List.flatMap_cons, List.flatMap_nil, List.append_nil]
            have : j = n * 2 ∨ j = n * 2 + 1 := by omega
            rcases this with e | e
            · subst e
              rw [show n * 2 - n * 2 = 0 from by omega, show n * 2 / 2 = n from by omega, if_pos (by omega)]; rfl
            · subst e
              rw [show n * 2 + 1 - n * 2 = 1 from by omega, show (n * 2 + 1) / 2 = n from by omega, if_neg (by omega)]; rfl
      rw [key len (Nat.le_refl _) j hj] at hu
      by_cases hm2 : j % 2 = 0
      · rw [if_pos hm2] at hu
        injection hu with hu
        subst hu
        have := (hq (j / 2) (by omega)).1
        rwa [show j / 2 * 2 = j from by omega] at this
      · rw [if_neg hm2] at hu
        injection hu with hu
        subst hu
        have := (hq (j / 2) (by omega)).2
        rwa [show j / 2 * 2 + 1 = j from by omega] at this
/-- A slice of slices of numbers, opened. -/
theorem open_lists {v : Value} {d : DataW H} {ps : List MemPlace} {b0 : Nat} (hval : Value.okWide Tryd.prog W .any b0 34 v) (h : DataW.Trod enc Tryd.prog W 0 (fun _ => true) true 34 v d ps) :
    ∃ V ls c, v = .slice V ls.length c ∧ Lists W V ls ∧ ls.length ≤ maxLen ∧ ∀ l ∈ ls, l.length ≤ maxLen := by
  obtain ⟨V, len, cap, rfl⟩ := okWide_slice Tryd.underlying34 hval
  obtain ⟨fuel, h⟩ := h
  have hcs : (Value.slice V len cap).cells.toList = [.slice V len cap] := by simp [Value.cells]
  rw [hcs] at h
  rcases open_int_rows Tryd.underlying34 Tryd.underlying40 Tryd.underlying3 cells40 cells3 h with ⟨h1, _⟩ | ⟨a, l, c, A, L, C, Z, h1, _, hl, hml, _, hx⟩
  · injection h1 with h1
    injection h1 with e1 e2 e3
    subst e1 e2 e3
    exact ⟨none, [], 0, rfl, ⟨fun _ => (none, 0), Sl.nil _ _ _, fun i hi => by simp at hi⟩, by simp, by simp⟩
  · injection h1 with h1
    injection h1 with e1 e2 e3
    subst e1 e2 e3
    have hz : ∀ i, i < len → ((Z i).take (L i)).length = L i := by
      intro i hi
      obtain ⟨_, h2, _, h4, _⟩ := hx i (by omega)
      rw [List.length_take]; omega
    have hg : ∀ i, i < len → ((List.range len).map fun i => (Z i).take (L i)).getD i [] = (Z i).take (L i) := by
      intro i hi; simp [hi]
    refine ⟨some a, (List.range len).map fun i => (Z i).take (L i), cap, by simp, ⟨fun i => (A i, C i), ?_, ?_⟩, by simp; omega, ?_⟩
    · refine ⟨by simp, fun hn => ⟨a, rfl, ?_, ?_⟩⟩
      · have hn' : 0 < len := by simpa using hn
        have := (hx 0 (by omega)).1
        exact World.block_lt_of_cell? W _ this
      · intro j u hu
        have hj : j < len := by
          have := (List.getElem?_eq_some_iff.1 hu).1
          simpa using this
        have e : u = .slice (A j) (L j) (C j) := by
          rw [List.getElem?_map, List.getElem?_range (by simpa using hj)] at hu
          simp only [Option.map_some] at hu
          injection hu with hu
          rw [← hu, hg j hj, hz j hj]
        rw [e]
        exact (hx j (by omega)).1
    · intro i hi
      have hi' : i < len := by simpa using hi
      rw [hg i hi']
      obtain ⟨h1, h2, h3, h4, h5, h6, h7⟩ := hx i (by omega)
      refine ⟨by simp, fun hn => ?_⟩
      rw [hz i hi'] at hn
      have hA : ∃ a', A i = some a' := by
        cases hA : A i with
        | none => have := h6 hA; omega
        | some a' => exact ⟨a', rfl⟩
      obtain ⟨a', hA⟩ := hA
      obtain ⟨_, hc⟩ := h7 a' hA
      refine ⟨a', hA, World.block_lt_of_cell? W _ (hc 0 (by omega)), ?_⟩
      intro j u hu
      have hj : j < L i := by
        have := (List.getElem?_eq_some_iff.1 hu).1
        rw [List.length_map, hz i hi'] at this
        exact this
      have e : u = .int .i64 ((Z i).getD j 0) := by
        rw [List.getElem?_map, List.getElem?_take, if_pos hj] at hu
        simp only [List.getElem?_eq_getElem (show j < (Z i).length by omega), Option.map_some] at hu
        injection hu with hu
        rw [← hu]
        simp [vi, show j < (Z i).length by omega]
      rw [e]
      exact hc j (by omega)
    · intro l hl2
      obtain ⟨i, hi, rfl⟩ := List.mem_map.1 hl2
      have hi' : i < len := by simpa using hi
      obtain ⟨h1, h2, h3, _⟩ := hx i (by omega)
      rw [hz i hi']; omega
end
/-- The world of the witness: the settled one, the table holding what its initialiser lays. -/
noncomputable def laidWorld (os : Os) : World :=
  { World.holding Tryd.prog os ⟨#[], #[], []⟩ with heap := (World.holding Tryd.prog os ⟨#[], #[], []⟩).heap.modify 0 fun
      | .cells _ t frozen => .cells (tabZ.map fun z => Value.int .u8 z).toArray t frozen
      | o => o }
theorem own : ownKnob Tryd.prog.godebug = none := by kernel_rfl
end Go.Proofs.YtamipjpcphghaaaDoor.Fr
