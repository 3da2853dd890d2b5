/- The reference's tables: a slice of rows of truth values, each row a block of its own. -/
import Derived.Test.YtamipjpcphghaaaDoorWP
namespace Go.Proofs.Tg
open Go.RowKit Go.Gr
/-- A row of n cells, told by a function. -/
def farr (n : Nat) (f : Nat → Value) : Array Value := ((List.range n).map f).toArray
theorem farr_size (n : Nat) (f : Nat → Value) : (farr n f).size = n := by simp [farr]
theorem farr_at (n : Nat) (f : Nat → Value) {i : Nat} (hi : i < n) : (farr n f)[i]? = some (f i) := by simp [farr, hi]
theorem farr_set (n : Nat) (f : Nat → Value) (i : Nat) (v : Value) : (farr n f).setIfInBounds i v = farr n (fun k => if k = i then v else f k) := by
  apply Array.ext
  · simp [farr]
  · intro k h1 h2
    rw [Array.getElem_setIfInBounds (by simpa using h1)]
    simp only [farr, List.getElem_toArray, List.getElem_map, List.getElem_range]
    by_cases hk : i = k
    · subst hk; simp
    · rw [if_neg hk, if_neg (fun e => hk e.symm)]
theorem farr_made (z : Value) (n : Nat) : madeCells #[z] n = farr n (fun _ => z) := by
  apply Array.ext
  · simp [farr, size_madeCells]
  · intro i h1 h2
    simp [madeCells, farr, Nat.mod_one]
theorem farr_congr {n : Nat} {f g : Nat → Value} (h : ∀ i, i < n → f i = g i) : farr n f = farr n g := by
  unfold farr
  rw [List.map_congr_left (fun i hi => h i (by simpa using hi))]
theorem brow_info : (Tryd.prog.info? 62).map (fun i => (i.zero, i.size, i.bytes)) = some (some (.slice none 0 0), 1, 24) := by kernel_rfl
theorem bool_info : (Tryd.prog.info? 4).map (fun i => (i.zero, i.size, i.bytes)) = some (some (.bool false), 1, 1) := by kernel_rfl
theorem make_table (n : Nat) (hn : n ≤ 1000000) (w : World) : (Instr.makeSlice 60 (.int .i64 (n : Int)) (.int .i64 (n : Int))).run Tryd.prog w = .ok (.slice (some ⟨w.heap.size, 0, none⟩) n n) (w.alloc (.cells (farr n fun _ => .slice none 0 0) 62)) := by
  obtain ⟨i0, hi, hz0, hz1, hz2⟩ := info_parts brow_info
  have hr := run_make (P := Tryd.prog) w 60 62 i0 (.slice none 0 0) Tryd.underlying60 hi hz0 .i64 .i64 n n (by omega) (by omega) (by rw [hz2]; omega) (by omega)
  rw [hz1, Nat.mul_one, Int.toNat_natCast, show (Value.slice none 0 0).cells = #[.slice none 0 0] from rfl, farr_made] at hr
  exact hr
theorem make_bools (n : Nat) (hn : n ≤ 1000000) (w : World) : (Instr.makeSlice 62 (.int .i64 (n : Int)) (.int .i64 (n : Int))).run Tryd.prog w = .ok (.slice (some ⟨w.heap.size, 0, none⟩) n n) (w.alloc (.cells (farr n fun _ => .bool false) 4)) := by
  obtain ⟨i0, hi, hz0, hz1, hz2⟩ := info_parts bool_info
  have hr := run_make (P := Tryd.prog) w 62 4 i0 (.bool false) Tryd.underlying62 hi hz0 .i64 .i64 n n (by omega) (by omega) (by rw [hz2]; omega) (by omega)
  rw [hz1, Nat.mul_one, Int.toNat_natCast, show (Value.bool false).cells = #[.bool false] from rfl, farr_made] at hr
  exact hr
def rowV (g n i : Nat) : Value := .slice (some ⟨g + 1 + i, 0, none⟩) n n
/-- The table at block g, its rows in the next n blocks. -/
structure TableAt (w : World) (g n : Nat) (t : Nat → Nat → Bool) : Prop where
  head : Blk w g 62 (farr n (rowV g n))
  row : ∀ i, i < n → Blk w (g + 1 + i) 4 (farr n fun j => .bool (t i j))
set_option maxHeartbeats 1000000
set_option maxRecDepth 100000
theorem blank_any (n : Nat) (w : World) (hn : n ≤ 1000000) :
    Calls Tryd.prog 42 #[.int .i64 n] w fun e w' => e = .returned (.slice (some ⟨w.heap.size, 0, none⟩) n n) ∧ TableAt w' w.heap.size n (fun _ _ => false) ∧ Below w.heap.size w w' := by
  have m1 := fun W => make_table n hn W
  have m2 := fun W => make_bools n hn W
  go_enter Tryd.func42, Tryd.ntmps42
  go_wp2
  go_loopw [4] (fun i wr => ∃ k : Nat, i = .int .i64 k ∧ k ≤ n ∧ Hid (wr.heap.size = w.heap.size + 1 + k) ∧ Blk wr w.heap.size 62 (farr n fun i => if i < k then rowV w.heap.size n i else .slice none 0 0) ∧ (∀ i, i < k → Blk wr (w.heap.size + 1 + i) 4 (farr n fun _ => .bool false)) ∧ Below w.heap.size w wr) (fun i _ => n - (intOf i).toNat)
  case atStart =>
    refine ⟨0, rfl, Nat.zero_le _, Lib.hid (by simp), ?_, fun i hi => by omega, (Below.refl _ _).alloc (Nat.le_refl _) _⟩
    have := Blk.new w 62 (farr n fun _ => .slice none 0 0)
    rw [show (farr n fun i => if i < 0 then rowV w.heap.size n i else .slice none 0 0) = farr n fun _ => .slice none 0 0 from farr_congr (fun i _ => by simp)]
    exact this
  case round =>
    obtain ⟨k, rfl, hk, HS, hB, hR, hb⟩ := hrel
    have HR := Lib.hid hR
    clear hR
    by_cases hkn : k < n
    · have ck := (hB.cell k).trans (farr_at n _ hkn)
      rw [if_neg (by omega)] at ck
      have fk := hB.frozen k
      have hlt := Blk.lt hB
      have hsz := hb.size
      go_wp2
      go_roundw
      case rel =>
        refine ⟨k + 1, by go_num, by omega, Lib.hid ?_, ?_, ?_, ?_⟩
        · simp [World.setCell]; have := HS.out; omega
        · have := (hB.set k (.slice (some ⟨wr.heap.size, 0, none⟩) n n))
          rw [farr_set, HS.out] at this
          rw [show (farr n fun i => if i < k + 1 then rowV w.heap.size n i else .slice none 0 0) = farr n (fun i => if i = k then .slice (some ⟨w.heap.size + 1 + k, 0, none⟩) n n else if i < k then rowV w.heap.size n i else .slice none 0 0) from farr_congr (fun i _ => by
            by_cases h1 : i = k
            · subst h1; simp [rowV]
            · by_cases h2 : i < k
              · simp [h1, h2]; omega
              · simp [h1, h2]; omega)]
          rw [HS.out]
          first | exact this.alloc _ | exact this
        · intro i hi
          by_cases h1 : i = k
          · subst h1
            have := Blk.new (wr.setCell ⟨w.heap.size, i, none⟩ (.slice (some ⟨wr.heap.size, 0, none⟩) n n)) 4 (farr n fun _ => .bool false)
            rw [show (wr.setCell ⟨w.heap.size, i, none⟩ (.slice (some ⟨wr.heap.size, 0, none⟩) n n)).heap.size = w.heap.size + 1 + i from by simp [World.setCell]; exact HS.out] at this
            exact this
          · exact ((HR.out i (by omega)).far (by simp; omega) _).alloc _
        · exact (hb.setCell (by simp) _).alloc (by simp [World.setCell]; omega) _
      case measure => simp [intOf]; omega
    · obtain rfl : k = n := by omega
      go_wp2
      go_ret
      refine ⟨rfl, ⟨?_, HR.out⟩, hb⟩
      rw [show farr k (rowV w.heap.size k) = farr k fun i => if i < k then rowV w.heap.size k i else .slice none 0 0 from farr_congr (fun i hi => by rw [if_pos hi])]
      exact hB
end Go.Proofs.Tg
