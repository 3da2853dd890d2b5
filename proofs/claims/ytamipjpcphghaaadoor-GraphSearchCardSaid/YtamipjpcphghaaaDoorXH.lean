/- The statements' made: a small valid graph, whatever comes in. -/
import Derived.Test.YtamipjpcphghaaaDoorXG
namespace Go.Proofs.Tg
open Go.RowKit Go.Gr
set_option maxHeartbeats 2000000
set_option maxRecDepth 100000
def okEs (m : Int) (fs : List (Int × Int)) : Prop := rangeOk m fs ∧ ∀ x ∈ fs, x.1 ≠ x.2
theorem okEs_snoc {m : Int} {fs : List (Int × Int)} (h : okEs m fs) (a b : Int) (hm : 0 < m) (hab : modZ a m ≠ modZ b m) : okEs m (fs ++ [(modZ a m, modZ b m)]) := by
  have h1 := modZ_in a hm
  have h2 := modZ_in b hm
  refine ⟨⟨h.1.1, fun e he => ?_⟩, fun e he => ?_⟩
  · rcases List.mem_append.1 he with he | he
    · exact h.1.2 e he
    · simp at he; subst he; exact ⟨h1.1, h1.2, h2.1, h2.2⟩
  · rcases List.mem_append.1 he with he | he
    · exact h.2 e he
    · simp at he; subst he; exact hab
def RetMade (w : World) (e : Ending) (w' : World) : Prop :=
  ∃ (m : Nat) (fs : List (Int × Int)) (F : Option Addr) (d : Nat), m ≤ 8 ∧ valid m fs ∧ fs.length ≤ 64 ∧ e = .returned (.tuple #[.agg #[.int .i64 m, .slice F fs.length d], .bool true]) ∧ EdgesAt w' F fs ∧ Below w.heap.size w w'
theorem made_long (n : Int) (E : Option Addr) (c : Nat) (es : List (Int × Int)) (w : World) (hl : 40 < es.length) :
    Calls Tryd.prog 16 #[.int .i64 n, .slice E es.length c] w fun e w' => e = .returned (.tuple #[.agg #[.int .i64 0, .slice none 0 0], .bool false]) ∧ Below w.heap.size w w' := by
  have d : decide ((40 : Int) < (es.length : Int)) = true := by simp; omega
  go_enter Tryd.func16, Tryd.ntmps16
  go_wp2_with (go_at_call 44; refine (mod_any _ _ _ (by omega) (by omega)).mono ?_; rintro e w1 ⟨rfl, rfl⟩)
  refine bodyPost_ret (v := .tuple #[.agg #[.int .i64 0, .slice none 0 0], .bool false]) (by simp [results, Tryd.results16, go_sem]) rfl ?_
  exact ⟨rfl, (Below.refl _ _).alloc (Nat.le_refl _) _⟩
theorem made_any (n : Int) (E : Option Addr) (c : Nat) (es : List (Int × Int)) (w : World) (hE : EdgesAt w E es) (hl : es.length ≤ 40) :
    Calls Tryd.prog 16 #[.int .i64 n, .slice E es.length c] w (RetMade w) := by
  obtain ⟨i0, hi, hz0, hz1, hz2⟩ := info_parts pair_info
  have d : decide ((40 : Int) < (es.length : Int)) = false := by simp; omega
  have hm0 := modZ_in n (show (0 : Int) < 9 by omega)
  have hB0 := Blk.new w 25 #[.int .i64 0, .slice none 0 0]
  have hb0 : Below w.heap.size w (w.alloc (.cells #[.int .i64 0, .slice none 0 0] 25)) := (Below.refl _ _).alloc (Nat.le_refl _) _
  have HM := Lib.hid (fun W => mod_any n 9 W (by omega) (by omega))
  generalize modZ n 9 = m at hm0 HM
  obtain ⟨hm1, hm2⟩ := hm0
  have HOK0 : Hid (okEs m []) := Lib.hid ⟨⟨⟨hm1, by omega⟩, by simp⟩, by simp⟩
  go_enter Tryd.func16, Tryd.ntmps16
  go_wp2_with (go_at_call 44; refine (HM.out _).mono ?_; rintro e w1 ⟨rfl, hw1⟩; subst hw1)
  generalize w.alloc (.cells #[.int .i64 0, .slice none 0 0] 25) = W at hB0 hb0 ⊢
  go_loopw [7, 6] (fun i s wr => ∃ (k : Nat) (E2 : Option Addr) (c2 : Nat) (fs : List (Int × Int)), i = .int .i64 k ∧ k ≤ es.length ∧ s = .slice E2 fs.length c2 ∧ wr.ownsRow (w.heap.size + 1) 46 2 (.slice E2 fs.length c2) fs.length (ecells fs) ∧ fs.length ≤ c2 ∧ fs.length ≤ k ∧
      Hid (okEs m fs) ∧ Blk wr w.heap.size 25 #[.int .i64 0, .slice none 0 0] ∧ Below w.heap.size w wr) (fun i _ _ => es.length - (intOf i).toNat)
  case atStart => exact ⟨0, none, 0, [], rfl, Nat.zero_le _, rfl, World.ownsRow_nil _ _ _ _, by simp, by simp, HOK0, hB0, hb0⟩
  case round =>
    clear hB0 hb0 HOK0
    obtain ⟨k, E2, c2, fs, rfl, hk, rfl, hown, hfc, hfk, HOK, hB, hb⟩ := hrel
    have fin : (k < es.length ∧ 1 < m) ∨ ¬ (k < es.length ∧ 1 < m) := Classical.em _
    rcases fin with ⟨hkl, hm3⟩ | hstop
    · have hkb : decide ((k : Int) < (es.length : Int)) = true := by simp; omega
      have hmb : decide (1 < m) = true := by simpa using hm3
      obtain ⟨ad, rfl, hc1, hc2⟩ := EdgesAt.at (hE.keep hb) hkl
      obtain ⟨x, y, hp⟩ : ∃ x y, es[k] = (x, y) := ⟨_, _, rfl⟩
      rw [hp] at hc1 hc2
      clear hp
      simp only at hc1 hc2
      have k0 : (0 : Int) ≤ (k : Int) := by omega
      have k1 : (k : Int) < (es.length : Int) := by omega
      have HMM := Lib.hid (fun a W => mod_any a m W (by omega) (by omega))
      go_upto_region 8 with fail
      go_cut [8, 9] (fun a b wx => a = .int .i64 (modZ x m) ∧ b = .int .i64 (modZ y m) ∧ Below wr.heap.size wr wx)
      case first =>
        clear hE HM hown hB hb
        go_quiet ((go_at_call 44; exact Calls.quiet_of_same (HMM.out _ _)))
        go_wp2_with fail
        go_meet
        exact ⟨rfl, rfl, below_drewN (Below.refl _ _) _⟩
      case rest =>
        obtain ⟨rfl, rfl, hbx⟩ := hcut
        have hown1 := own_below hown hbx (Nat.le_refl _)
        have hBc := hB.keep hbx hB.lt
        have hbc : Below w.heap.size w wc := below_all hb hbx
        clear hown hB hb hbx hc1 hc2
        have hlt : w.heap.size < wc.heap.size := hBc.lt
        by_cases hab : modZ x m = modZ y m
        · have hbe : (modZ x m != modZ y m) = false := by simp [hab]
          generalize modZ x m = a at hbe
          generalize modZ y m = b at hbe
          clear hab
          go_wp2
          go_roundw
          case rel => exact ⟨k + 1, E2, c2, fs, by go_num, by omega, rfl, hown1, hfc, by omega, HOK, hBc, hbc⟩
          case measure => simp [intOf]; omega
        · have hbe : (modZ x m != modZ y m) = true := by simp [hab]
          have HOK2 := Lib.hid (okEs_snoc HOK.out x y (by omega) hab)
          generalize modZ x m = a at hbe HOK2
          generalize modZ y m = b at hbe HOK2
          clear hab
          have hne := own_blk_ne hown1 hBc (by decide)
          have HB := Lib.hid hBc
          go_wp2_with (at_builtin; refine wpList_append_own_at _ rfl _ _ 22 rfl (w.heap.size + 1) 46 i0 (.agg #[.int .i64 0, .int .i64 0]) 2 16 Tryd.underlying22 hi hz0 hz1 hz2 rfl (by decide) (.slice E2 fs.length c2) _ _ rfl (hown1.alloc _) ⟨wc.heap.size, 0, none⟩ 1 1 [.int .i64 a, .int .i64 b] rfl rfl ?c1 ?c2 ?c3 ?c4 ?c5 ?_
                       case c1 => exact cell_two_new' _ _ _ _
                       case c2 => simp [Value.oneCell']
                       case c3 => simp only [maxLen]; omega
                       case c4 => omega
                       case c5 => simp; omega
                       intro v' w1 hown2 hg1 _ _
                       obtain ⟨E3, c3, hv, hle3, _⟩ := Sl.of_own hown2
                       subst hv)
          have hlen : (fs ++ [(a, b)]).length = fs.length + 1 := by simp
          have B4 := Blk.grown (Blk.alloc HB.out _) hg1 hne
          go_roundw
          case rel =>
            refine ⟨k + 1, E3, c3, fs ++ [(a, b)], by go_num, by omega, by rw [hlen], ?_, by rw [hlen]; exact hle3, by rw [hlen]; omega, HOK2, B4, ?_⟩
            · rw [hlen, ecells_app]; exact hown2
            · exact (hbc.alloc hbc.size _).grown hg1 (by simp; omega) (fun j hj => by have := (hown1.lt j hj).1; omega)
          case measure => simp [intOf]; omega
    · have hout : es.length ≤ k ∨ (k < es.length ∧ m ≤ 1) := by omega
      obtain ⟨mm, rfl⟩ := Int.eq_ofNat_of_zero_le hm1
      have hmm : mm ≤ 8 := by omega
      have HV : Hid (∀ e w', RetRMake mm fs wr e w' → ∃ gs F d, valid mm gs ∧ gs.length ≤ 64 ∧ e = .returned (.tuple #[.agg #[.int .i64 mm, .slice F gs.length d], .int .i64 0]) ∧ w'.ownsRow wr.heap.size 46 2 (.slice F gs.length d) gs.length (ecells gs) ∧ Below wr.heap.size wr w') := by
        refine Lib.hid ?_
        rintro e w' (⟨h3, _⟩ | ⟨_, ⟨x, hx, h3⟩, _⟩ | ⟨_, _, F, d, h3, h4, h5⟩)
        · exact absurd HOK.out.1 h3
        · exact absurd h3 (HOK.out.2 x hx)
        · rw [Int.toNat_natCast] at h3 h4
          refine ⟨_, F, d, tableEdges_valid (readT fs) (by omega), ?_, h3, h4, h5⟩
          have := tableEdges_len (readT fs) mm mm
          have h2 : mm * mm ≤ 8 * 8 := Nat.mul_le_mul hmm hmm
          omega
      have hEF := Sl.own hown
      have hmk := rmake_any mm E2 c2 fs wr hEF (by omega)
      have HMK := Lib.hid hmk
      have hltw : w.heap.size < wr.heap.size := hB.lt
      have b0 := hB.cell 0
      have b1 := hB.cell 1
      have f0 := hB.frozen 0
      have f1 := hB.frozen 1
      simp at b0 b1
      clear hmk hEF hown hE HM hstop
      rcases hout with q1 | ⟨q1, q2⟩
      all_goals
        go_wp2_with (go_at_call 14; refine HMK.out.mono ?_; intro e w2 hm; obtain ⟨gs, F, dd, hgv, hgl, rfl, hF, hb2⟩ := HV.out _ _ hm; clear hm
                     have e0 := keep_cell hb2 b0
                     have e1 := keep_cell hb2 b1
                     have g0 := (hb2.frozen (p := ⟨w.heap.size, 0, none⟩) hltw).trans f0
                     have g1 := (hb2.frozen (p := ⟨w.heap.size, 1, none⟩) hltw).trans f1
                     have hlt2 : w.heap.size < w2.heap.size := Nat.lt_of_lt_of_le hltw hb2.size)
        have B4 := Blk.alloc (blk_two (c := .int .i64 mm) (d := .slice F gs.length dd) (hB.keep hb2 hltw)) (.cells #[.int .i64 mm, .slice F gs.length dd] 25)
        refine bodyPost_ret (v := .tuple #[.agg #[.int .i64 mm, .slice F gs.length dd], .bool true]) (results_g (p := 4) (q := 5) rfl _ _ w.heap.size _ _ rfl B4) rfl ?_
        have hbw2 : Below w.heap.size w w2 := below_all hb hb2
        have hbw3 : Below w.heap.size w ((w2.setCell ⟨w.heap.size, 0, none⟩ (.int .i64 mm)).setCell ⟨w.heap.size, 1, none⟩ (.slice F gs.length dd)) := (hbw2.setCell (by simp) _).setCell (by simp) _
        refine ⟨mm, gs, F, dd, hmm, hgv, hgl, rfl, ?_, hbw3.alloc hbw3.size _⟩
        exact Sl.own ((ownsRow_setCell_below (ownsRow_setCell_below hF (by simpa using hltw) _) (by simpa using hltw) _).alloc _)
end Go.Proofs.Tg
