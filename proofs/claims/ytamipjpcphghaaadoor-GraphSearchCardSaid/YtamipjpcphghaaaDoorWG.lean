/- Maximum cardinality search. -/
import Derived.Test.YtamipjpcphghaaaDoorWF
import Derived.Test.YtamipjpcphghaaaDoorSpec
import Derived.Laws.MakeOwn
namespace Go.Proofs.Tg
open Go.RowKit Go.Gr
theorem make_ints (l n : Nat) (hl : l ≤ n) (hn : n ≤ 1000000) (w : World) : (Instr.makeSlice 40 (.int .i64 (l : Int)) (.int .i64 (n : Int))).run Tryd.prog w = .ok (.slice (some ⟨w.heap.size, 0, none⟩) l n) (w.alloc (.cells (madeCells #[.int .i64 0] n) 3)) := by
  obtain ⟨i0, hi, hz0, hz1, hz2⟩ := info_parts int_info
  have hr := run_make (P := Tryd.prog) w 40 3 i0 (.int .i64 0) Tryd.underlying40 hi hz0 .i64 .i64 l n (by omega) (by omega) (by rw [hz2]; omega) (by omega)
  rw [hz1, Nat.mul_one, Int.toNat_natCast, Int.toNat_natCast] at hr
  exact hr
set_option maxHeartbeats 1000000
set_option maxRecDepth 100000
theorem search_any (g n : Nat) (A : Nat → Nat) (w : World) (hA : AdjAt w g A) (hS : Small A) (hn : n ≤ 64) :
    Calls Tryd.prog 49 #[.pointer (some ⟨g, 0, none⟩), .int .i64 n] w (RetOwn 3 (search A n).length 1 ((search A n).map vn) w) := by
  obtain ⟨i0, hi, hz0, hz1, hz2⟩ := info_parts int_info
  have hgl := Blk.lt hA
  have hmk := fun W => make_ints 0 n (by omega) (by omega) W
  simp only [Int.natCast_zero] at hmk
  go_enter Tryd.func49, Tryd.ntmps49
  go_wp2
  clear hmk
  go_loopw [14, 6, 5] (fun i s v wr => ∃ (k : Nat) (V : Option Addr) (c : Nat), i = .int .i64 k ∧ k ≤ n ∧ s = .int .u64 ((searchTo A n k).1 : Nat) ∧ v = .slice V k c ∧ wr.ownsRow w.heap.size 3 1 (.slice V k c) k ((searchTo A n k).2.map vn) ∧ Below w.heap.size w wr) (fun i _ _ _ => n - (intOf i).toNat)
  case atStart =>
    refine ⟨0, _, _, rfl, Nat.zero_le _, rfl, rfl, ?_, ?_⟩
    · exact World.ownsRow_made _ _ _ (Nat.le_refl _) (by simp only [maxLen]; omega) (by simp [size_madeCells])
    · exact (Below.refl _ _).alloc (Nat.le_refl _) _
  case round =>
    obtain ⟨wo, rfl⟩ : ∃ wo : World, wo = wr := ⟨_, rfl⟩
    obtain ⟨k, V, c, rfl, hk, rfl, rfl, hown, hb⟩ := hrel
    have hvis := visits (A := A) hn k hk
    by_cases hlt : k < n
    · obtain ⟨v, hv, hf, he, -⟩ := best_of hvis hlt
      have hsm := hvis.small
      have HS : Hid (searchTo A n (k + 1) = (bset (searchTo A n k).1 v, (searchTo A n k).2 ++ [v])) := by
        refine Lib.hid ?_
        simp only [searchTo, he]; rfl
      have HE := Lib.hid he
      have hll := hvis.len
      clear hf he hvis
      generalize (searchTo A n k).1 = vis at HS hsm HE ⊢
      generalize (searchTo A n k).2 = out at HS hll hown
      have hA' := hA.keep hb hgl
      go_wp2
      go_loop [17, 7, 8] (fun i b m => ∃ j : Nat, i = .int .i64 j ∧ j ≤ n ∧ b = .int .i64 (best A vis j).1 ∧ m = .int .i64 (best A vis j).2) (fun i _ _ => n - (intOf i).toNat)
      case atStart => exact ⟨0, rfl, Nat.zero_le _, rfl, rfl⟩
      case round =>
        obtain ⟨j, rfl, hj, rfl, rfl⟩ := hrel
        by_cases hjn : j < n
        · have hc := AdjAt.cell hA' (i := j) (by omega)
          have hsj := hS j
          have hand := u64_and_nat (A j) vis hsj hsm
          have hal := and_lt vis hsj
          have hsz : size (A j &&& vis) ≤ 64 := size_le _
          obtain ⟨bb, mm, hbm⟩ : ∃ bb mm : Int, best A vis j = (bb, mm) := ⟨_, _, rfl⟩
          have HN : Hid (best A vis (j + 1) = bestStep A vis (bb, mm) j) := by rw [← hbm]; exact best_succ A vis j
          rw [hbm]
          clear hbm
          unfold bestStep at HN
          generalize hq : size (A j &&& vis) = q at HN hsz
          have HQ := Lib.hid hq
          clear hq
          simp only
          by_cases h1 : vis.testBit j = true
          · have hN : best A vis (j + 1) = (bb, mm) := by rw [HN.out, if_neg (by simp [h1])]
            have HN2 := Lib.hid hN
            clear HN hN
            go_wp2_with (first | (go_at_call 61; refine (size_any _ _ hal).mono ?_; rintro e w' ⟨rfl, rfl⟩; rw [HQ.out]) | (go_at_call 60; refine (has_any _ _ _ hsm (by omega)).mono ?_; rintro e w' ⟨rfl, rfl⟩))
            go_round
            case rel => exact ⟨j + 1, by go_num, by omega, by rw [HN2.out], by rw [HN2.out]⟩
            case measure => simp [intOf]; omega
          · have h1' : vis.testBit j = false := by simpa using h1
            clear h1
            by_cases h2 : mm < (q : Int)
            · have hN : best A vis (j + 1) = ((j : Int), (q : Int)) := by rw [HN.out, if_pos ⟨h1', h2⟩]
              have HN2 := Lib.hid hN
              have h2' : decide (mm < (q : Int)) = true := by simpa using h2
              clear HN hN
              go_wp2_with (first | (go_at_call 61; refine (size_any _ _ hal).mono ?_; rintro e w' ⟨rfl, rfl⟩; rw [HQ.out]) | (go_at_call 60; refine (has_any _ _ _ hsm (by omega)).mono ?_; rintro e w' ⟨rfl, rfl⟩))
              go_round
              case rel => exact ⟨j + 1, by go_num, by omega, by rw [HN2.out], by rw [HN2.out]⟩
              case measure => simp [intOf]; omega
            · have hN : best A vis (j + 1) = (bb, mm) := by rw [HN.out, if_neg (fun h => h2 h.2)]
              have HN2 := Lib.hid hN
              have h2' : decide (mm < (q : Int)) = false := by simpa using h2
              clear HN hN
              go_wp2_with (first | (go_at_call 61; refine (size_any _ _ hal).mono ?_; rintro e w' ⟨rfl, rfl⟩; rw [HQ.out]) | (go_at_call 60; refine (has_any _ _ _ hsm (by omega)).mono ?_; rintro e w' ⟨rfl, rfl⟩))
              go_round
              case rel => exact ⟨j + 1, by go_num, by omega, by rw [HN2.out], by rw [HN2.out]⟩
              case measure => simp [intOf]; omega
        · obtain rfl : j = n := by omega
          rw [HE.out]
          simp only
          have hszo := hb.size
          go_wp2_with (first
            | (go_at_call 51; refine (with_any _ _ _ hsm (by omega)).mono ?_; rintro e w' ⟨rfl, rfl⟩)
            | (at_builtin; refine wpList_append_own _ rfl _ _ 40 rfl w.heap.size 3 i0 (.int .i64 0) 1 8 Tryd.underlying40 hi hz0 hz1 hz2 rfl (by decide) (.slice V k c) k (out.map vn) rfl (hown.alloc _) ⟨wo.heap.size, 0, none⟩ 1 1 [.int .i64 v] rfl rfl ?c1 ?c2 ?c3 ?c4 ?c5 ?_
               case c1 => exact cell_one_new _ _ _
               case c2 => simp [Value.oneCell']
               case c3 => simp only [maxLen]; omega
               case c4 => omega
               case c5 => simp; omega
               intro v' w1 hown' hgrow _
               obtain ⟨V2, c2, hv2, _, _⟩ := Sl.of_own hown'
               subst hv2))
          go_roundw
          case rel =>
            refine ⟨k + 1, V2, c2, by go_num, by omega, by rw [HS.out], rfl, ?_, (hb.alloc hszo _).grown hgrow (by simp; omega) (fun q hq => (hown.lt q hq).1)⟩
            rw [HS.out]
            simpa [vn] using hown'
          case measure => simp [intOf]; omega
    · obtain rfl : k = n := by omega
      have hll := hvis.len
      clear hvis
      go_wp2
      go_ret
      obtain ⟨_, _, hvv, hcc, _⟩ := Sl.of_own hown
      injection hvv with e1 e2 e3
      refine ⟨V, c, ?_, ?_, ?_, hb⟩
      · show Ending.returned (.slice V k c) = _
        unfold search; rw [hll]
      · unfold search; rw [hll, e3]; exact hcc
      · unfold search; rw [hll]; exact hown
end Go.Proofs.Tg
