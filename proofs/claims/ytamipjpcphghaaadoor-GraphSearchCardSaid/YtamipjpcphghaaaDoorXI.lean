/- The reference's Valid and Read. -/
import Derived.Test.YtamipjpcphghaaaDoorPC
namespace Go.Gr
theorem validTo_prev {n : Int} {es : List (Int × Int)} {k : Nat} (h : validTo n es (k + 1)) (hk : k < es.length) : goodEdge n es[k] ∧ (0 < k → lexLt (es[k - 1]'(by omega)) es[k]) :=
  ⟨(h k hk (by omega)).1, fun h0 => (cmpE_lex _ _).1 ((h k hk (by omega)).2 h0)⟩
end Go.Gr
namespace Go.Proofs.Tg
open Go.RowKit Go.Gr
set_option maxHeartbeats 4000000
set_option maxRecDepth 100000
theorem rvalid_any (n : Int) (E : Option Addr) (c : Nat) (es : List (Int × Int)) (b : Bool) (w : World) (hE : EdgesAt w E es) (hl : es.length ≤ 1000000) (hv : b = true ↔ valid n es) :
    Calls Tryd.prog 35 #[.agg #[.int .i64 n, .slice E es.length c]] w fun e w' => e = .returned (.bool b) ∧ Below w.heap.size w w' := by
  have HV := Lib.hid hv
  clear hv
  have hbA : Below w.heap.size w (w.alloc (.cells #[.int .i64 n, .slice E es.length c] 25)) := (Below.refl _ _).alloc (Nat.le_refl _) _
  have hB0 := Blk.new w 25 #[.int .i64 n, .slice E es.length c]
  by_cases h1 : n < 0
  · have d1 : decide (n < 0) = true := by simpa using h1
    obtain rfl : b = false := by
      cases b
      · rfl
      · have := (HV.out.1 rfl).1; omega
    go_enter Tryd.func35, Tryd.ntmps35
    go_wp2
    go_ret
    exact ⟨rfl, hbA⟩
  · have d1 : decide (n < 0) = false := by simpa using h1
    by_cases h2 : 64 < n
    · have d2 : decide (64 < n) = true := by simpa using h2
      obtain rfl : b = false := by
        cases b
        · rfl
        · have := (HV.out.1 rfl).2.1; omega
      go_enter Tryd.func35, Tryd.ntmps35
      go_wp2
      go_ret
      exact ⟨rfl, hbA⟩
    · have d2 : decide (64 < n) = false := by simpa using h2
      go_enter Tryd.func35, Tryd.ntmps35
      go_wp2
      generalize w.alloc (.cells #[.int .i64 n, .slice E es.length c] 25) = W at hbA hB0 ⊢
      go_loopw [3] (fun i wr => ∃ k : Nat, i = .int .i64 k ∧ k ≤ es.length ∧ Hid (validTo n es k) ∧ Blk wr w.heap.size 25 #[.int .i64 n, .slice E es.length c] ∧ Below w.heap.size w wr) (fun i _ => es.length - (intOf i).toNat)
      case atStart => exact ⟨0, rfl, Nat.zero_le _, Lib.hid (fun i _ h => by omega), hB0, hbA⟩
      case round =>
        clear hbA hB0
        obtain ⟨k, rfl, hk, HT, hB, hb⟩ := hrel
        have b0 := hB.cell 0
        have b1 := hB.cell 1
        simp at b0 b1
        by_cases hkl : k < es.length
        · have hkb : decide ((k : Int) < (es.length : Int)) = true := by simp; omega
          obtain ⟨ad, rfl, hc1, hc2⟩ := EdgesAt.at (hE.keep hb) hkl
          have hprev : 0 < k → ∃ x0 y0 : Int, Hid (es[k - 1]'(by omega) = (x0, y0)) ∧ wr.cell? (ad.add ((k - 1) * 2)) = some (.int .i64 x0) ∧ wr.cell? ⟨(ad.add ((k - 1) * 2)).block, (ad.add ((k - 1) * 2)).off + 1, none⟩ = some (.int .i64 y0) := by
            intro h0
            obtain ⟨ad', e, g1, g2⟩ := EdgesAt.at (hE.keep hb) (k := k - 1) (by omega)
            injection e with e
            subst e
            exact ⟨_, _, Lib.hid rfl, g1, g2⟩
          have HBAD : Hid (¬ (goodEdge n es[k] ∧ (0 < k → lexLt (es[k - 1]'(by omega)) es[k])) → b = false) := Lib.hid (fun h => by
            cases b
            · rfl
            · exfalso
              have := (HV.out.1 rfl).2.2 k hkl hkl
              exact h ⟨this.1, fun h0 => (cmpE_lex _ _).1 (this.2 h0)⟩)
          have HOK : Hid (goodEdge n es[k] → (0 < k → lexLt (es[k - 1]'(by omega)) es[k]) → validTo n es (k + 1)) := Lib.hid (fun g h => validTo_succ hkl HT.out g (fun h0 => (cmpE_lex _ _).2 (h h0)))
          obtain ⟨x, y, hp⟩ : ∃ x y, es[k] = (x, y) := ⟨_, _, rfl⟩
          rw [hp] at hc1 hc2 HBAD HOK
          clear hp
          simp only at hc1 hc2
          have k0 : (0 : Int) ≤ (k : Int) := by omega
          have k1 : (k : Int) < (es.length : Int) := by omega
          clear HT HV
          by_cases t1 : x < 0
          · have e1 : decide (x < 0) = true := by simpa using t1
            obtain rfl := HBAD.out (fun h => by have := h.1.1; simp at this; omega)
            clear hprev HBAD HOK
            go_wp2
            go_quiet (fail)
            go_wp2
            go_ret
            exact ⟨rfl, below_drewN hb _⟩
          · have e1 : decide (x < 0) = false := by simpa using t1
            by_cases t2 : y ≤ x
            · have e2 : decide (y ≤ x) = true := by simpa using t2
              obtain rfl := HBAD.out (fun h => by have := h.1.2.1; simp at this; omega)
              clear hprev HBAD HOK
              go_wp2
              go_quiet (fail)
              go_wp2
              go_ret
              exact ⟨rfl, below_drewN hb _⟩
            · have e2 : decide (y ≤ x) = false := by simpa using t2
              by_cases t3 : n ≤ y
              · have e3 : decide (n ≤ y) = true := by simpa using t3
                obtain rfl := HBAD.out (fun h => by have := h.1.2.2; simp at this; omega)
                clear hprev HBAD HOK
                go_wp2
                go_quiet (fail)
                go_wp2
                go_ret
                exact ⟨rfl, below_drewN hb _⟩
              · have e3 : decide (n ≤ y) = false := by simpa using t3
                have HG : Hid (goodEdge n (x, y)) := Lib.hid ⟨by simp; omega, by simp; omega, by simp; omega⟩
                by_cases hk0 : k = 0
                · have e4 : decide ((0 : Int) < (k : Int)) = false := by simp; omega
                  have e4' : decide (0 < k) = false := by simp; omega
                  have HT2 := Lib.hid (HOK.out HG.out (fun h0 => by omega))
                  clear hprev HBAD HOK hk0
                  go_wp2
                  go_quiet (fail)
                  go_wp2
                  go_roundw
                  case rel => exact ⟨k + 1, by go_num, by omega, HT2, hB.drewN _, below_drewN hb _⟩
                  case measure => simp [intOf]; omega
                · have hkp : 0 < k := by omega
                  obtain ⟨x0, y0, HP0, hq1, hq2⟩ := hprev hkp
                  clear hprev hk0
                  have e4 : decide ((0 : Int) < (k : Int)) = true := by simp; omega
                  have e4' : decide (0 < k) = true := by simp; omega
                  by_cases t5 : x < x0
                  · have e5 : decide (x < x0) = true := by simpa using t5
                    obtain rfl := HBAD.out (fun h => by have := h.2 hkp; rw [HP0.out] at this; unfold lexLt at this; simp at this; omega)
                    clear HBAD HOK
                    go_wp2
                    go_quiet (fail)
                    go_wp2
                    go_ret
                    exact ⟨rfl, below_drewN hb _⟩
                  · have e5 : decide (x < x0) = false := by simpa using t5
                    by_cases t6 : x = x0
                    · subst t6
                      by_cases t7 : y ≤ y0
                      · have e7 : decide (y ≤ y0) = true := by simpa using t7
                        obtain rfl := HBAD.out (fun h => by have := h.2 hkp; rw [HP0.out] at this; unfold lexLt at this; simp at this; omega)
                        clear HBAD HOK
                        go_wp2
                        go_quiet (fail)
                        go_wp2
                        go_ret
                        exact ⟨rfl, below_drewN hb _⟩
                      · have e7 : decide (y ≤ y0) = false := by simpa using t7
                        have HT2 := Lib.hid (HOK.out HG.out (fun h0 => by rw [HP0.out]; right; simp; omega))
                        clear HBAD HOK
                        go_wp2
                        go_quiet (fail)
                        go_wp2
                        go_roundw
                        case rel => exact ⟨k + 1, by go_num, by omega, HT2, hB.drewN _, below_drewN hb _⟩
                        case measure => simp [intOf]; omega
                    · have e6 : (x == x0) = false := by simpa using t6
                      have HT2 := Lib.hid (HOK.out HG.out (fun h0 => by rw [HP0.out]; left; simp; omega))
                      clear HBAD HOK t6
                      go_wp2
                      go_quiet (fail)
                      go_wp2
                      go_roundw
                      case rel => exact ⟨k + 1, by go_num, by omega, HT2, hB.drewN _, below_drewN hb _⟩
                      case measure => simp [intOf]; omega
        · obtain rfl : k = es.length := by omega
          have hkb : decide ((es.length : Int) < (es.length : Int)) = false := by simp
          obtain rfl : b = true := HV.out.2 ⟨by omega, by omega, HT.out⟩
          go_wp2
          go_ret
          exact ⟨rfl, hb⟩
def RetTable (n : Nat) (t : Nat → Nat → Bool) (w : World) (e : Ending) (w' : World) : Prop :=
  ∃ g, w.heap.size ≤ g ∧ e = .returned (.slice (some ⟨g, 0, none⟩) n n) ∧ TableAt w' g n t ∧ Below w.heap.size w w'
theorem rread_any (n : Nat) (E : Option Addr) (c : Nat) (es : List (Int × Int)) (w : World) (hE : EdgesAt w E es) (hl : es.length ≤ 1000000) (hv : valid n es) :
    Calls Tryd.prog 46 #[.agg #[.int .i64 n, .slice E es.length c]] w (RetTable n (readT es) w) := by
  have hn : n ≤ 64 := by have := hv.2.1; omega
  have HG := Lib.hid (valid_good hv)
  clear hv
  have hbA : Below w.heap.size w (w.alloc (.cells #[.int .i64 n, .slice E es.length c] 25)) := (Below.refl _ _).alloc (Nat.le_refl _) _
  have hB0 := Blk.new w 25 #[.int .i64 n, .slice E es.length c]
  go_enter Tryd.func46, Tryd.ntmps46
  go_wp2_with (go_at_call 42; refine (blank_any n _ (by omega)).mono ?_; rintro e w1 ⟨rfl, hTb, hb1⟩)
  have hB1 := hB0.keep hb1 hB0.lt
  have hbw1 : Below w.heap.size w w1 := below_all hbA hb1
  have hgl : w.heap.size < w.heap.size + 1 := by omega
  rw [show (w.alloc (.cells #[.int .i64 n, .slice E es.length c] 25)).heap.size = w.heap.size + 1 from by simp] at hTb
  clear hB0 hb1
  generalize w.heap.size + 1 = g at hTb hgl ⊢
  go_loopw [4] (fun i wr => ∃ (k : Nat) (t : Nat → Nat → Bool), i = .int .i64 k ∧ k ≤ es.length ∧ TableAt wr g n t ∧ Hid (t = readT (es.take k)) ∧ Blk wr w.heap.size 25 #[.int .i64 n, .slice E es.length c] ∧ Below w.heap.size w wr) (fun i _ => es.length - (intOf i).toNat)
  case atStart => exact ⟨0, _, rfl, Nat.zero_le _, hTb, Lib.hid (by simp [readT]), hB1, hbw1⟩
  case round =>
    clear hB1 hbw1 hTb
    obtain ⟨k, t, rfl, hk, hT, HT, hB, hb⟩ := hrel
    have b1 := hB.cell 1
    simp at b1
    by_cases hkl : k < es.length
    · have hkb : decide ((k : Int) < (es.length : Int)) = true := by simp; omega
      obtain ⟨ad, rfl, hc1, hc2⟩ := EdgesAt.at (hE.keep hb) hkl
      have hgood := HG.out es[k] (List.getElem_mem _)
      have HA2 : Hid (readT (es.take (k + 1)) = joinT (readT (es.take k)) es[k].1.toNat es[k].2.toNat) := Lib.hid (readT_succ hkl)
      obtain ⟨x, y, hp⟩ : ∃ x y, es[k] = (x, y) := ⟨_, _, rfl⟩
      rw [hp] at hc1 hc2 HA2 hgood
      have HPE := Lib.hid hp
      clear hp
      obtain ⟨g1, g2, g3⟩ := hgood
      simp only at hc1 hc2 g1 g2 g3
      obtain ⟨i, rfl⟩ := Int.eq_ofNat_of_zero_le g1
      obtain ⟨j, rfl⟩ := Int.eq_ofNat_of_zero_le (show 0 ≤ y by omega)
      have k0 : (0 : Int) ≤ (k : Int) := by omega
      have k1 : (k : Int) < (es.length : Int) := by omega
      have hin2 : i < n := by omega
      have hjn2 : j < n := by omega
      have ci := (hT.head.cell i).trans (farr_at n _ hin2)
      have cj := (hT.head.cell j).trans (farr_at n _ hjn2)
      unfold rowV at ci cj
      have cij := ((hT.row i hin2).cell j).trans (farr_at n _ hjn2)
      have cji := ((hT.row j hjn2).cell i).trans (farr_at n _ hin2)
      have fij := (hT.row i hin2).frozen j
      have fji := (hT.row j hjn2).frozen i
      have i0 : (0 : Int) ≤ (i : Int) := by omega
      have i1 : (i : Int) < (n : Int) := by omega
      have j0 : (0 : Int) ≤ (j : Int) := by omega
      have j1 : (j : Int) < (n : Int) := by omega
      have HT1 := Lib.hid (hT.set (b := j) hin2)
      have HB1 := Lib.hid (hB.far (p := ⟨g + 1 + i, j, none⟩) (by simp; omega) (.bool true))
      have HBL1 := Lib.hid (hb.setCell (p := ⟨g + 1 + i, j, none⟩) (by simp; omega) (.bool true))
      have HTT := Lib.hid hT
      generalize t i j = tij at cij
      clear hT cji fji cj
      go_upto_region 5 with fail
      go_cut [4] (fun s wx => s = .int .i64 k ∧ TableAt wx g n (setT t i j) ∧ Blk wx w.heap.size 25 #[.int .i64 n, .slice (some ad) es.length c] ∧ Below w.heap.size w wx)
      case first =>
        clear hE
        go_region
        go_wp2_with fail
        go_meet
        exact ⟨rfl, ⟨HT1.out.head, HT1.out.row⟩, HB1.out, below_drewN HBL1.out _⟩
      case rest =>
        obtain ⟨rfl, hT, hB2, hb2⟩ := hcut
        clear hc1 hc2 ci cij fij HTT HT1 HB1 HBL1
        obtain ⟨ad', ead, hc1, hc2⟩ := EdgesAt.at (hE.keep hb2) hkl
        injection ead with ead
        subst ead
        rw [HPE.out] at hc1 hc2
        simp only at hc1 hc2
        have ci := (hT.head.cell j).trans (farr_at n _ hjn2)
        unfold rowV at ci
        have cij := ((hT.row j hjn2).cell i).trans (farr_at n _ hin2)
        have fij := (hT.row j hjn2).frozen i
        have b1 := hB2.cell 1
        simp at b1
        have HT1 := Lib.hid (hT.set (b := i) hjn2)
        have HB1 := Lib.hid (hB2.far (p := ⟨g + 1 + j, i, none⟩) (by simp; omega) (.bool true))
        have HBL1 := Lib.hid (hb2.setCell (p := ⟨g + 1 + j, i, none⟩) (by simp; omega) (.bool true))
        have HTN : Hid (setT (setT t i j) j i = readT (es.take (k + 1))) := Lib.hid (by rw [HA2.out, ← HT.out]; rfl)
        generalize setT t i j j i = tij at cij
        clear hT HA2
        go_wp2
        go_region
        go_wp2
        go_roundw
        case rel => exact ⟨k + 1, _, by go_num, by omega, ⟨HT1.out.head, HT1.out.row⟩, HTN, HB1.out, below_drewN HBL1.out _⟩
        case measure => simp [intOf]; omega
    · obtain rfl : k = es.length := by omega
      have hkb : decide ((es.length : Int) < (es.length : Int)) = false := by simp
      have HA2 : Hid (t = readT es) := Lib.hid (by rw [HT.out, List.take_length])
      go_wp2
      go_ret
      refine ⟨g, by omega, rfl, ?_, hb⟩
      rw [← HA2.out]; exact hT
end Go.Proofs.Tg
