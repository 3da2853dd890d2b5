/- The statements' small; the reference's Adjacent and Neighbors. -/
import Derived.Test.YtamipjpcphghaaaDoorXI
import Derived.Test.YtamipjpcphghaaaDoorWV
namespace Go.Proofs.Tg
open Go.RowKit Go.Gr
set_option maxHeartbeats 4000000
set_option maxRecDepth 100000
theorem small_graph (n : Int) (E : Option Addr) (c : Nat) (es : List (Int × Int)) (b : Bool) (w : World) (hv : b = true ↔ n ≤ 9 ∧ es.length ≤ 40) :
    Calls Tryd.prog 36 #[.agg #[.int .i64 n, .slice E es.length c]] w fun e w' => e = .returned (.bool b) ∧ Below w.heap.size w w' := by
  have hbA : Below w.heap.size w (w.alloc (.cells #[.int .i64 n, .slice E es.length c] 25)) := (Below.refl _ _).alloc (Nat.le_refl _) _
  by_cases h1 : n ≤ 9
  · have d1 : decide (n ≤ 9) = true := by simpa using h1
    by_cases h2 : es.length ≤ 40
    · have d2 : decide ((es.length : Int) ≤ 40) = true := by simp; omega
      obtain rfl : b = true := hv.2 ⟨h1, h2⟩
      clear hv
      go_enter Tryd.func36, Tryd.ntmps36
      go_wp2
      go_ret
      exact ⟨rfl, hbA⟩
    · have d2 : decide ((es.length : Int) ≤ 40) = false := by simp; omega
      obtain rfl : b = false := by
        cases b
        · rfl
        · exact absurd (hv.1 rfl).2 h2
      clear hv
      go_enter Tryd.func36, Tryd.ntmps36
      go_wp2
      go_ret
      exact ⟨rfl, hbA⟩
  · have d1 : decide (n ≤ 9) = false := by simpa using h1
    obtain rfl : b = false := by
      cases b
      · rfl
      · exact absurd (hv.1 rfl).1 h1
    clear hv
    go_enter Tryd.func36, Tryd.ntmps36
    go_wp2
    go_ret
    exact ⟨rfl, hbA⟩
theorem radj_any (n : Int) (E : Option Addr) (c : Nat) (es : List (Int × Int)) (i j : Int) (b : Bool) (w : World) (hE : EdgesAt w E es) (hl : es.length ≤ 1000000) (hb : b = true ↔ adjB n es i j) :
    Calls Tryd.prog 37 #[.agg #[.int .i64 n, .slice E es.length c], .int .i64 i, .int .i64 j] w fun e w' => e = .returned (.bool b) ∧ Below w.heap.size w w' := by
  have hbA : Below w.heap.size w (w.alloc (.cells #[.int .i64 n, .slice E es.length c] 25)) := (Below.refl _ _).alloc (Nat.le_refl _) _
  have hE1 := hE.keep hbA
  have hB0 := Blk.new w 25 #[.int .i64 n, .slice E es.length c]
  by_cases hv : valid n es
  · have HR := Lib.hid (rvalid_any n E c es true _ hE1 hl (by simp [hv]))
    obtain ⟨m, rfl⟩ := Int.eq_ofNat_of_zero_le hv.1
    have HV := Lib.hid hv
    by_cases hij : 0 ≤ i ∧ i < m ∧ 0 ≤ j ∧ j < m
    · obtain ⟨i, rfl⟩ := Int.eq_ofNat_of_zero_le hij.1
      obtain ⟨j, rfl⟩ := Int.eq_ofNat_of_zero_le hij.2.2.1
      have hi : i < m := by omega
      have hj : j < m := by omega
      have e : b = readT es i j := by
        rw [Bool.eq_iff_iff, hb]
        have : (readAll es i).testBit j = readT es i j := read_bits es i j
        unfold adjB
        rw [Int.toNat_natCast, Int.toNat_natCast, this]
        exact ⟨fun h => h.2.2, fun h => ⟨hv, hij, h⟩⟩
      have HE := Lib.hid e
      have d1 : decide ((0 : Int) ≤ (i : Int)) = true := by simp
      have d2 : decide ((i : Int) < (m : Int)) = true := by simp; omega
      have d3 : decide ((0 : Int) ≤ (j : Int)) = true := by simp
      have d4 : decide ((j : Int) < (m : Int)) = true := by simp; omega
      clear e hb hv hij
      go_enter Tryd.func37, Tryd.ntmps37
      go_wp2_with (first
        | (go_at_call 35; refine HR.out.mono ?_; rintro e w1 ⟨rfl, hb1⟩
           have hB1 := hB0.keep hb1 hB0.lt
           have c0 := hB1.cell 0
           have c1 := hB1.cell 1
           simp at c0 c1)
        | (go_at_call 46; refine (rread_any m E c es w1 (hE1.keep hb1) hl HV.out).mono ?_; rintro e w2 ⟨g, hg, rfl, hTab, hb2⟩
           have t1 := (hTab.head.cell i).trans (farr_at m _ hi)
           unfold rowV at t1
           have t2 := ((hTab.row i hi).cell j).trans (farr_at m _ hj)
           rw [← HE.out] at t2))
      go_ret
      exact ⟨rfl, below_all (below_all hbA hb1) hb2⟩
    · obtain rfl : b = false := by
        cases b
        · rfl
        · exact absurd (hb.1 rfl).2.1 hij
      clear hb hv
      by_cases h1 : 0 ≤ i
      · have d1 : decide (0 ≤ i) = true := by simpa using h1
        by_cases h2 : i < m
        · have d2 : decide (i < (m : Int)) = true := by simpa using h2
          by_cases h3 : 0 ≤ j
          · have d3 : decide (0 ≤ j) = true := by simpa using h3
            have d4 : decide (j < (m : Int)) = false := by simp; omega
            clear hij
            go_enter Tryd.func37, Tryd.ntmps37
            go_wp2_with (go_at_call 35; refine HR.out.mono ?_; rintro e w1 ⟨rfl, hb1⟩; have c0 := (hB0.keep hb1 hB0.lt).cell 0; simp at c0)
            go_ret
            exact ⟨rfl, below_all hbA hb1⟩
          · have d3 : decide (0 ≤ j) = false := by simpa using h3
            clear hij
            go_enter Tryd.func37, Tryd.ntmps37
            go_wp2_with (go_at_call 35; refine HR.out.mono ?_; rintro e w1 ⟨rfl, hb1⟩; have c0 := (hB0.keep hb1 hB0.lt).cell 0; simp at c0)
            go_ret
            exact ⟨rfl, below_all hbA hb1⟩
        · have d2 : decide (i < (m : Int)) = false := by simpa using h2
          clear hij
          go_enter Tryd.func37, Tryd.ntmps37
          go_wp2_with (go_at_call 35; refine HR.out.mono ?_; rintro e w1 ⟨rfl, hb1⟩; have c0 := (hB0.keep hb1 hB0.lt).cell 0; simp at c0)
          go_ret
          exact ⟨rfl, below_all hbA hb1⟩
      · have d1 : decide (0 ≤ i) = false := by simpa using h1
        clear hij
        go_enter Tryd.func37, Tryd.ntmps37
        go_wp2_with (go_at_call 35; refine HR.out.mono ?_; rintro e w1 ⟨rfl, hb1⟩)
        go_ret
        exact ⟨rfl, below_all hbA hb1⟩
  · have HR := Lib.hid (rvalid_any n E c es false _ hE1 hl (by simp [hv]))
    obtain rfl : b = false := by
      cases b
      · rfl
      · exact absurd (hb.1 rfl).1 hv
    clear hb hv
    go_enter Tryd.func37, Tryd.ntmps37
    go_wp2_with (go_at_call 35; refine HR.out.mono ?_; rintro e w1 ⟨rfl, hb1⟩)
    go_ret
    exact ⟨rfl, below_all hbA hb1⟩
/-- The vertices that Adjacent names. -/
noncomputable def nbB (n : Int) (es : List (Int × Int)) (i : Int) (k : Nat) : Bool := @decide (adjB n es i k) (Classical.propDecidable _)
theorem nbB_iff {n : Int} {es : List (Int × Int)} {i : Int} {k : Nat} : nbB n es i k = true ↔ adjB n es i k := @decide_eq_true_iff _ (Classical.propDecidable _)
theorem rneigh_any (n : Nat) (E : Option Addr) (c : Nat) (es : List (Int × Int)) (i : Int) (w : World) (hE : EdgesAt w E es) (hl : es.length ≤ 1000000) (hn : n ≤ 64) :
    Calls Tryd.prog 39 #[.agg #[.int .i64 n, .slice E es.length c], .int .i64 i] w fun e w' => ∃ A d, e = .returned (.slice A ((List.range n).filter (nbB n es i)).length d) ∧ Nats w' A ((List.range n).filter (nbB n es i)) ∧ Below w.heap.size w w' := by
  obtain ⟨i0, hi, hz0, hz1, hz2⟩ := info_parts int_info
  have hbA : Below w.heap.size w (w.alloc (.cells #[.int .i64 n, .slice E es.length c] 25)) := (Below.refl _ _).alloc (Nat.le_refl _) _
  have hB0 := Blk.new w 25 #[.int .i64 n, .slice E es.length c]
  go_enter Tryd.func39, Tryd.ntmps39
  go_wp2
  generalize w.alloc (.cells #[.int .i64 n, .slice E es.length c] 25) = W at hbA hB0 ⊢
  go_loopw [6, 5] (fun x s wr => ∃ (k : Nat) (V : Option Addr) (d : Nat) (l : List Nat), x = .int .i64 k ∧ k ≤ n ∧ s = .slice V l.length d ∧ l.length ≤ d ∧ l.length ≤ k ∧ Hid (l = (List.range k).filter (nbB n es i)) ∧ wr.ownsRow (w.heap.size + 1) 3 1 (.slice V l.length d) l.length (l.map vn) ∧ Blk wr w.heap.size 25 #[.int .i64 n, .slice E es.length c] ∧ Below w.heap.size w wr) (fun x _ _ => n - (intOf x).toNat)
  case atStart => exact ⟨0, none, 0, [], rfl, Nat.zero_le _, rfl, Nat.le_refl _, Nat.le_refl _, Lib.hid (by simp), World.ownsRow_nil _ _ _ _, hB0, hbA⟩
  case round =>
    clear hB0 hbA
    obtain ⟨wo, rfl⟩ : ∃ wo : World, wo = wr := ⟨_, rfl⟩
    obtain ⟨k, V, d, l, rfl, hk, rfl, hld, hlk, HL, hown, hB, hb⟩ := hrel
    have b0 := hB.cell 0
    have b1 := hB.cell 1
    simp at b0 b1
    by_cases hkn : k < n
    · have hkb : decide ((k : Int) < (n : Int)) = true := by simp; omega
      have HS : Hid ((List.range (k + 1)).filter (nbB n es i) = (List.range k).filter (nbB n es i) ++ if nbB n es i k = true then [k] else []) := Lib.hid (by
        rw [List.range_succ, List.filter_append]
        cases h : nbB n es i k <;> simp [h])
      have HA := Lib.hid (radj_any n E c es i k (nbB n es i k) wo (hE.keep hb) hl nbB_iff)
      cases hnb : nbB n es i k
      · rw [hnb] at HA HS
        have HL2 : Hid (l = (List.range (k + 1)).filter (nbB n es i)) := Lib.hid (by rw [HS.out, HL.out]; simp)
        clear HS HL hnb
        go_wp2_with (go_at_call 37; refine HA.out.mono ?_; rintro e w1 ⟨rfl, hb1⟩)
        go_roundw
        case rel => exact ⟨k + 1, V, d, l, by go_num, by omega, rfl, hld, by omega, HL2, own_below hown hb1 (Nat.le_refl _), hB.keep hb1 hB.lt, below_all hb hb1⟩
        case measure => simp [intOf]; omega
      · rw [hnb] at HA HS
        have HL2 : Hid (l ++ [k] = (List.range (k + 1)).filter (nbB n es i)) := Lib.hid (by rw [HS.out, HL.out]; simp)
        clear HS HL hnb
        go_wp2_with (first
          | (go_at_call 37; refine HA.out.mono ?_; rintro e w1 ⟨rfl, hb1⟩
             have hown1 := own_below hown hb1 (Nat.le_refl _)
             have hB1 := hB.keep hb1 hB.lt
             have hbw1 : Below w.heap.size w w1 := below_all hb hb1
             have hlt1 : w.heap.size < w1.heap.size := hB1.lt)
          | (at_builtin; refine wpList_append_own _ rfl _ _ 40 rfl (w.heap.size + 1) 3 i0 (.int .i64 0) 1 8 Tryd.underlying40 hi hz0 hz1 hz2 rfl (by decide) (.slice V l.length d) l.length (l.map vn) rfl (hown1.alloc _) ⟨w1.heap.size, 0, none⟩ 1 1 [.int .i64 k] rfl rfl ?c1 ?c2 ?c3 ?c4 ?c5 ?_
             case c1 => exact cell_one_new _ _ _
             case c2 => simp [Value.oneCell']
             case c3 => simp only [maxLen]; omega
             case c4 => omega
             case c5 => simp; omega
             intro v' w2 hown' hgrow _
             obtain ⟨V2, c2, hv2, hle2, _⟩ := Sl.of_own hown'
             subst hv2))
        have hlen : (l ++ [k]).length = l.length + 1 := by simp
        go_roundw
        case rel =>
          refine ⟨k + 1, V2, c2, l ++ [k], by go_num, by omega, by rw [hlen], by rw [hlen]; exact hle2, by rw [hlen]; omega, HL2, ?_, ?_, ?_⟩
          · rw [hlen]; simpa [vn] using hown'
          · exact (hB1.alloc _).grown hgrow (own_blk_ne hown1 hB1 (by decide))
          · exact (hbw1.alloc hbw1.size _).grown hgrow (by simp; omega) (fun q hq => by have := (hown1.lt q hq).1; omega)
        case measure => simp [intOf]; omega
    · obtain rfl : k = n := by omega
      have hkb : decide ((k : Int) < (k : Int)) = false := by simp
      go_wp2
      go_ret
      rw [← HL.out]
      exact ⟨V, d, rfl, Sl.own hown, hb⟩
/-- Both name the same neighbours. -/
theorem neigh_list {n : Nat} {es : List (Int × Int)} (hv : valid n es) (i : Int) : (List.range n).filter (nbB n es i) = if 0 ≤ i ∧ i < n then verts (readAll es i.toNat) else [] := by
  have hn : n ≤ 64 := by have := hv.2.1; omega
  have hN := valid_nice hv
  split
  · rename_i hi
    unfold verts
    symm
    apply filter_range_le hn
    · intro k hk
      rw [Bool.eq_iff_iff, nbB_iff]
      unfold adjB
      rw [Int.toNat_natCast]
      exact ⟨fun h => ⟨hv, ⟨hi.1, hi.2, by omega, by omega⟩, h⟩, fun h => h.2.2⟩
    · intro k h1 h2
      have hb : (readAll es i.toNat).testBit k = readT es i.toNat k := read_bits es i.toNat k
      rw [hb]
      cases hh : readT es i.toNat k
      · rfl
      · have := (hN.lt _ _ hh).2; omega
  · rename_i hi
    rw [List.filter_eq_nil_iff]
    intro k hk
    rw [nbB_iff]
    intro h
    exact hi ⟨h.2.1.1, h.2.1.2.1⟩
end Go.Proofs.Tg
