/- The reference's Write. -/
import Derived.Test.YtamipjpcphghaaaDoorXA
namespace Go.Gr
/-- The edges of row i of a table to vertices from i + 1 to j - 1. -/
def rowT (t : Nat → Nat → Bool) (i j : Nat) : List (Int × Int) := ((List.range j).filter fun k => decide (i < k) && t i k).map fun k : Nat => ((i : Int), (k : Int))
def tableEdges (t : Nat → Nat → Bool) (n m : Nat) : List (Int × Int) := (List.range m).flatMap fun i => rowT t i n
theorem rowT_succ (t : Nat → Nat → Bool) (i j : Nat) : rowT t i (j + 1) = rowT t i j ++ if i < j ∧ t i j = true then [((i : Int), (j : Int))] else [] := by
  unfold rowT
  rw [List.range_succ, List.filter_append, List.map_append]
  by_cases h : i < j ∧ t i j = true
  · rw [if_pos h]; simp [h.1, h.2]
  · rw [if_neg h]
    congr 1
    have : (decide (i < j) && t i j) = false := by
      by_cases h1 : i < j
      · have : t i j = false := by
          cases hh : t i j
          · rfl
          · exact absurd ⟨h1, hh⟩ h
        simp [this]
      · simp [h1]
    simp [this]
theorem rowT_start (t : Nat → Nat → Bool) (i : Nat) : rowT t i (i + 1) = [] := by
  unfold rowT
  rw [List.map_eq_nil_iff, List.filter_eq_nil_iff]
  intro k hk
  have : k < i + 1 := by simpa using hk
  simp; intro h; omega
theorem tableEdges_succ (t : Nat → Nat → Bool) (n m : Nat) : tableEdges t n (m + 1) = tableEdges t n m ++ rowT t m n := by simp [tableEdges, List.range_succ]
end Go.Gr
namespace Go.Proofs.Tg
open Go.RowKit Go.Gr
set_option maxHeartbeats 2000000
set_option maxRecDepth 100000
theorem rwrite_any (g n : Nat) (t : Nat → Nat → Bool) (w : World) (hA : TableAt w g n t) (hn : n ≤ 64) :
    Calls Tryd.prog 43 #[.slice (some ⟨g, 0, none⟩) n n] w (RetGraph n (tableEdges t n n) w) := by
  obtain ⟨i0, hi, hz0, hz1, hz2⟩ := info_parts pair_info
  have hgl := Blk.lt hA.head
  go_enter Tryd.func43, Tryd.ntmps43
  go_wp2
  go_loopw [4] (fun i wr => ∃ (k : Nat) (E : Option Addr) (c : Nat) (es : List (Int × Int)), i = .int .i64 k ∧ k ≤ n ∧ Blk wr w.heap.size 25 #[.int .i64 0, .slice none 0 0] ∧ Blk wr (w.heap.size + 1) 25 #[.int .i64 n, .slice E es.length c] ∧
      wr.ownsRow (w.heap.size + 2) 46 2 (.slice E es.length c) es.length (ecells es) ∧ es.length ≤ c ∧ es.length ≤ 64 * k ∧ Hid (es = tableEdges t n k) ∧ Below w.heap.size w wr) (fun i _ => n - (intOf i).toNat)
  case atStart =>
    refine ⟨0, none, 0, [], rfl, Nat.zero_le _, ?_, ?_, World.ownsRow_nil _ _ _ _, by simp, by simp, Lib.hid (by simp [tableEdges]), ?_⟩
    · exact Blk.alloc (Blk.new _ _ _) _
    · have := Blk.new (w.alloc (Obj.cells #[Value.int IntKind.i64 0, Value.slice none 0 0] 25)) 25 #[Value.int IntKind.i64 ↑n, Value.slice none 0 0]
      simpa using this
    · exact ((Below.refl _ _).alloc (Nat.le_refl _) _).alloc (by simp) _
  case round =>
    obtain ⟨wo, rfl⟩ : ∃ wo : World, wo = wr := ⟨_, rfl⟩
    obtain ⟨k, E, c, es, rfl, hk, hb4, hb5, hown, hec, hel, HE, hb⟩ := hrel
    by_cases hlt : k < n
    · have hkb : decide ((k : Int) < (n : Int)) = true := by simp; omega
      have hrl := Blk.lt (hA.row k hlt)
      go_wp2
      go_loopw [5] (fun j wr => ∃ (i : Nat) (E2 : Option Addr) (c2 : Nat) (fs : List (Int × Int)), j = .int .i64 i ∧ k + 1 ≤ i ∧ i ≤ n ∧ Blk wr w.heap.size 25 #[.int .i64 0, .slice none 0 0] ∧ Blk wr (w.heap.size + 1) 25 #[.int .i64 n, .slice E2 fs.length c2] ∧
          wr.ownsRow (w.heap.size + 2) 46 2 (.slice E2 fs.length c2) fs.length (ecells fs) ∧ fs.length ≤ c2 ∧ fs.length + 1 ≤ 64 * k + i ∧ Hid (fs = es ++ rowT t k i) ∧ Below w.heap.size w wr) (fun j _ => n - (intOf j).toNat)
      case atStart => exact ⟨k + 1, E, c, es, by go_num, by omega, by omega, hb4, hb5, hown, hec, by omega, Lib.hid (by rw [rowT_start, List.append_nil]), hb⟩
      case round =>
        clear hb4 hb5 hown hb
        obtain ⟨i, E2, c2, fs, rfl, hi1, hi2, hb4, hb5, hown, hfc, hfl, HF, hb⟩ := hrel
        by_cases hil : i < n
        · have hib : decide ((i : Int) < (n : Int)) = true := by simp; omega
          have hck := ((hA.head.keep hb hgl).cell k).trans (farr_at n _ hlt)
          have hci := (((hA.row k hlt).keep hb hrl).cell i).trans (farr_at n _ hil)
          unfold rowV at hck
          have HS := Lib.hid (rowT_succ t k i)
          have h51 := hb5.cell 1
          have f51 := hb5.frozen 1
          simp at h51
          have hszx := hb.size
          have hl5 := hb5.lt
          cases hti : t k i
          · rw [hti] at hci
            have HF2 : Hid (fs = es ++ rowT t k (i + 1)) := Lib.hid (by rw [HS.out, if_neg (by simp [hti]), List.append_nil]; exact HF.out)
            clear HF HS hti
            go_wp2
            go_roundw
            case rel => exact ⟨i + 1, E2, c2, fs, by go_num, by omega, by omega, hb4, hb5, hown, hfc, by omega, HF2, hb⟩
            case measure => simp [intOf]; omega
          · rw [hti] at hci
            have HF2 : Hid (fs ++ [((k : Int), (i : Int))] = es ++ rowT t k (i + 1)) := Lib.hid (by rw [HS.out, if_pos ⟨by omega, hti⟩, ← List.append_assoc, ← HF.out])
            clear HF HS hti
            have hne := own_blk_ne hown hb5 (by decide)
            have hne4 := own_blk_ne hown hb4 (by decide)
            have HB := Lib.hid (And.intro hb4 hb5)
            go_wp2_with (at_builtin; refine wpList_append_own_at _ rfl _ _ 22 rfl (w.heap.size + 2) 46 i0 (.agg #[.int .i64 0, .int .i64 0]) 2 16 Tryd.underlying22 hi hz0 hz1 hz2 rfl (by decide) (.slice E2 fs.length c2) _ _ rfl (hown.alloc _) ⟨wr.heap.size, 0, none⟩ 1 1 [.int .i64 k, .int .i64 i] rfl rfl ?c1 ?c2 ?c3 ?c4 ?c5 ?_
                         case c1 => exact cell_two_new' _ _ _ _
                         case c2 => simp [Value.oneCell']
                         case c3 => simp only [maxLen]; omega
                         case c4 => omega
                         case c5 => simp; omega
                         intro v' w1 hown1 hg1 _ _
                         obtain ⟨E3, c3, hv, hle3, _⟩ := Sl.of_own hown1
                         subst hv
                         have k51 := (Blk.grown (Blk.alloc HB.out.2 _) hg1 hne).cell 1
                         have g51 := (Blk.grown (Blk.alloc HB.out.2 _) hg1 hne).frozen 1
                         simp at k51)
            have hlen : (fs ++ [((k : Int), (i : Int))]).length = fs.length + 1 := by simp
            have B5 := Blk.grown (Blk.alloc HB.out.2 _) hg1 hne
            have B4 := Blk.grown (Blk.alloc HB.out.1 _) hg1 hne4
            go_roundw
            case rel =>
              refine ⟨i + 1, E3, c3, fs ++ [((k : Int), (i : Int))], by go_num, by omega, by omega, B4.far (by simp) _, ?_, ?_, by rw [hlen]; exact hle3, by rw [hlen]; omega, HF2, ?_⟩
              · have := B5.set 1 (.slice E3 (fs.length + 1) c3)
                rw [hlen]
                simpa using this
              · rw [hlen, ecells_app]
                exact own_far hown1 (own_blk_ne hown1 B5 (by decide)) _
              · exact ((hb.alloc hb.size _).grown hg1 (by simp; omega) (fun j hj => by have := (hown.lt j hj).1; omega)).setCell (by simp) _
            case measure => simp [intOf]; omega
        · have hib : decide ((i : Int) < (n : Int)) = false := by simp; omega
          obtain rfl : i = n := by omega
          go_wp2
          go_roundw
          case rel => exact ⟨k + 1, E2, c2, fs, by go_num, by omega, hb4, hb5, hown, hfc, by omega, Lib.hid (by rw [HF.out, tableEdges_succ, HE.out]), hb⟩
          case measure => simp [intOf]; omega
    · obtain rfl : k = n := by omega
      have h40 := hb4.cell 0
      have h41 := hb4.cell 1
      have f40 := hb4.frozen 0
      have f41 := hb4.frozen 1
      have h50 := hb5.cell 0
      have h51 := hb5.cell 1
      simp at h40 h41 h50 h51
      go_wp2
      refine bodyPost_ret (v := .agg #[.int .i64 k, .slice E es.length c]) (by simp [results, Tryd.results43, go_sem, h40, h41]) rfl ?_
      rw [← HE.out]
      exact ⟨E, c, rfl, hec, own_base (ownsRow_setCell_below (ownsRow_setCell_below hown (by simp) _) (by simp) _) (by omega), (hb.setCell (by simp) _).setCell (by simp) _⟩
end Go.Proofs.Tg
