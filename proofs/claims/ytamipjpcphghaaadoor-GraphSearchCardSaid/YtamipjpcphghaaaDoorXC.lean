/- The reference's Make. -/
import Derived.Test.YtamipjpcphghaaaDoorXB
namespace Go.Gr
def setT (t : Nat → Nat → Bool) (a b : Nat) : Nat → Nat → Bool := fun i j => if i = a ∧ j = b then true else t i j
def joinT (t : Nat → Nat → Bool) (a b : Nat) : Nat → Nat → Bool := setT (setT t a b) b a
def readT (es : List (Int × Int)) : Nat → Nat → Bool := es.foldl (fun t e => joinT t e.1.toNat e.2.toNat) (fun _ _ => false)
theorem readT_succ {es : List (Int × Int)} {k : Nat} (hk : k < es.length) : readT (es.take (k + 1)) = joinT (readT (es.take k)) es[k].1.toNat es[k].2.toNat := by
  unfold readT
  rw [List.take_succ_eq_append_getElem hk, List.foldl_append]
  rfl
end Go.Gr
namespace Go.Proofs.Tg
open Go.RowKit Go.Gr
set_option maxHeartbeats 2000000
set_option maxRecDepth 100000
theorem TableAt.keep {w w' : World} {g n B : Nat} {t : Nat → Nat → Bool} (h : TableAt w g n t) (hb : Below B w w') (hB : w.heap.size ≤ B) : TableAt w' g n t :=
  ⟨h.head.keep hb (Nat.lt_of_lt_of_le h.head.lt hB), fun i hi => (h.row i hi).keep hb (Nat.lt_of_lt_of_le (h.row i hi).lt hB)⟩
theorem TableAt.drew {w : World} {g n : Nat} {t : Nat → Nat → Bool} (h : TableAt w g n t) : TableAt w.drew g n t := ⟨h.head, h.row⟩
theorem TableAt.drewN {w : World} {g n : Nat} {t : Nat → Nat → Bool} (h : TableAt w g n t) (k : Nat) : TableAt (w.drewN k) g n t := ⟨h.head, h.row⟩
theorem TableAt.set {w : World} {g n : Nat} {t : Nat → Nat → Bool} (h : TableAt w g n t) {a b : Nat} (ha : a < n) : TableAt (w.setCell ⟨g + 1 + a, b, none⟩ (.bool true)) g n (setT t a b) := by
  refine ⟨h.head.far (by simp; omega) _, fun i hi => ?_⟩
  by_cases e : i = a
  · subst e
    have := (h.row i hi).set b (.bool true)
    rw [farr_set] at this
    rw [show (farr n fun j => Value.bool (setT t i b i j)) = farr n (fun k => if k = b then Value.bool true else Value.bool (t i k)) from farr_congr (fun j _ => by unfold setT; by_cases hj : j = b <;> simp [hj])]
    exact this
  · have := (h.row i hi).far (p := ⟨g + 1 + a, b, none⟩) (by simp; omega) (.bool true)
    rw [show (farr n fun j => Value.bool (setT t a b i j)) = farr n (fun j => Value.bool (t i j)) from farr_congr (fun j _ => by unfold setT; simp [e])]
    exact this
def RetRMake (n : Int) (es : List (Int × Int)) (w : World) (e : Ending) (w' : World) : Prop :=
  (¬ rangeOk n es ∧ e = .returned (.tuple #[zeroG, .int .i64 3]) ∧ Below w.heap.size w w') ∨
  (rangeOk n es ∧ (∃ x ∈ es, x.1 = x.2) ∧ e = .returned (.tuple #[zeroG, .int .i64 1]) ∧ Below w.heap.size w w') ∨
  (rangeOk n es ∧ (∀ x ∈ es, x.1 ≠ x.2) ∧ ∃ F d, e = .returned (.tuple #[.agg #[.int .i64 n, .slice F (tableEdges (readT es) n.toNat n.toNat).length d], .int .i64 0]) ∧
    w'.ownsRow w.heap.size 46 2 (.slice F (tableEdges (readT es) n.toNat n.toNat).length d) (tableEdges (readT es) n.toNat n.toNat).length (ecells (tableEdges (readT es) n.toNat n.toNat)) ∧ Below w.heap.size w w')
theorem rmake_any (n : Int) (E : Option Addr) (c : Nat) (es : List (Int × Int)) (w : World) (hE : EdgesAt w E es) (hl : es.length ≤ 1000000) :
    Calls Tryd.prog 14 #[.int .i64 n, .slice E es.length c] w (RetRMake n es w) := by
  by_cases hn : 0 ≤ n ∧ n ≤ 64
  · have d1 : decide (n < 0) = false := by simp; omega
    have d2 : decide (64 < n) = false := by simp; omega
    obtain ⟨hn0, hn1⟩ := hn
    have hE0 := hE.keep (w' := w.alloc (.cells #[.int .i64 0, .slice none 0 0] 25)) ((Below.refl _ _).alloc (Nat.le_refl _) _)
    have hB0 := Blk.new w 25 #[.int .i64 0, .slice none 0 0]
    have hb0 : Below w.heap.size w (w.alloc (.cells #[.int .i64 0, .slice none 0 0] 25)) := (Below.refl _ _).alloc (Nat.le_refl _) _
    go_enter Tryd.func14, Tryd.ntmps14
    go_wp2
    generalize w.alloc (.cells #[.int .i64 0, .slice none 0 0] 25) = W at hE0 hB0 hb0 ⊢
    have b0 := hB0.cell 0
    have b1 := hB0.cell 1
    have f0 := hB0.frozen 0
    have f1 := hB0.frozen 1
    simp at b0 b1
    go_loop [6] (fun i => ∃ k : Nat, i = .int .i64 k ∧ k ≤ es.length ∧ Hid (∀ e ∈ es.take k, inR n e)) (fun i => es.length - (intOf i).toNat)
    case atStart => exact ⟨0, rfl, Nat.zero_le _, Lib.hid (by simp)⟩
    case round =>
      obtain ⟨k, rfl, hk, HI⟩ := hrel
      by_cases hkl : k < es.length
      · have hkb : decide ((k : Int) < (es.length : Int)) = true := by simp; omega
        obtain ⟨ad, rfl, hc1, hc2⟩ := EdgesAt.at hE0 hkl
        have HM : Hid (es[k] ∈ es) := Lib.hid (List.getElem_mem _)
        have HT2 : Hid (es.take (k + 1) = es.take k ++ [es[k]]) := Lib.hid (List.take_succ_eq_append_getElem hkl)
        obtain ⟨x, y, hp⟩ : ∃ x y, es[k] = (x, y) := ⟨_, _, rfl⟩
        rw [hp] at hc1 hc2 HM HT2
        clear hp
        simp only at hc1 hc2
        go_wp2
        go_loop [7] (fun i => ∃ q : Nat, i = .int .i64 q ∧ q ≤ 2 ∧ (0 < q → Hid (0 ≤ x ∧ x < n)) ∧ (1 < q → Hid (0 ≤ y ∧ y < n))) (fun i => 2 - (intOf i).toNat)
        case atStart => exact ⟨0, rfl, by omega, by omega, by omega⟩
        case round =>
          obtain ⟨q, rfl, hq, hx, hy⟩ := hrel
          have : q = 0 ∨ q = 1 ∨ q = 2 := by omega
          rcases this with rfl | rfl | rfl
          · clear hx hy
            by_cases hin : 0 ≤ x ∧ x < n
            · have q1 : decide (x < 0) = false := by simp; omega
              have q2 : decide (n ≤ x) = false := by simp; omega
              have HX := Lib.hid hin
              clear hin
              go_wp2
              go_round
              case rel => exact ⟨1, rfl, by omega, fun _ => HX, by omega⟩
              case measure => simp [intOf]
            · have HBAD : Hid (¬ rangeOk n es) := Lib.hid (fun h => hin ⟨(h.2 _ HM.out).1, (h.2 _ HM.out).2.1⟩)
              by_cases h1 : x < 0
              · have q1 : decide (x < 0) = true := by simpa using h1
                go_wp2
                refine bodyPost_ret (v := .tuple #[zeroG, .int .i64 3]) (results_g (p := 4) (q := 5) rfl _ _ w.heap.size _ _ rfl (blk_two hB0)) rfl ?_
                exact .inl ⟨HBAD.out, rfl, (hb0.setCell (by simp) _).setCell (by simp) _⟩
              · have q1 : decide (x < 0) = false := by simpa using h1
                have q2 : decide (n ≤ x) = true := by simp; omega
                go_wp2
                refine bodyPost_ret (v := .tuple #[zeroG, .int .i64 3]) (results_g (p := 4) (q := 5) rfl _ _ w.heap.size _ _ rfl (blk_two hB0)) rfl ?_
                exact .inl ⟨HBAD.out, rfl, (hb0.setCell (by simp) _).setCell (by simp) _⟩
          · have HX := hx (by omega)
            clear hx hy
            by_cases hin : 0 ≤ y ∧ y < n
            · have q1 : decide (y < 0) = false := by simp; omega
              have q2 : decide (n ≤ y) = false := by simp; omega
              have HY := Lib.hid hin
              clear hin
              go_wp2
              go_round
              case rel => exact ⟨2, rfl, by omega, fun _ => HX, fun _ => HY⟩
              case measure => simp [intOf]
            · have HBAD : Hid (¬ rangeOk n es) := Lib.hid (fun h => hin ⟨(h.2 _ HM.out).2.2.1, (h.2 _ HM.out).2.2.2⟩)
              by_cases h1 : y < 0
              · have q1 : decide (y < 0) = true := by simpa using h1
                go_wp2
                refine bodyPost_ret (v := .tuple #[zeroG, .int .i64 3]) (results_g (p := 4) (q := 5) rfl _ _ w.heap.size _ _ rfl (blk_two hB0)) rfl ?_
                exact .inl ⟨HBAD.out, rfl, (hb0.setCell (by simp) _).setCell (by simp) _⟩
              · have q1 : decide (y < 0) = false := by simpa using h1
                have q2 : decide (n ≤ y) = true := by simp; omega
                go_wp2
                refine bodyPost_ret (v := .tuple #[zeroG, .int .i64 3]) (results_g (p := 4) (q := 5) rfl _ _ w.heap.size _ _ rfl (blk_two hB0)) rfl ?_
                exact .inl ⟨HBAD.out, rfl, (hb0.setCell (by simp) _).setCell (by simp) _⟩
          · have HX := hx (by omega)
            have HY := hy (by omega)
            clear hx hy
            go_wp2
            go_round
            case rel =>
              refine ⟨k + 1, by go_num, by omega, Lib.hid ?_⟩
              rw [HT2.out]
              intro e he
              rcases List.mem_append.1 he with h | h
              · exact HI.out e h
              · simp at h; subst h; exact ⟨HX.out.1, HX.out.2, HY.out.1, HY.out.2⟩
            case measure => simp [intOf]; omega
      · obtain rfl : k = es.length := by omega
        have HOK : Hid (rangeOk n es) := Lib.hid ⟨⟨hn0, hn1⟩, by have := HI.out; rwa [List.take_length] at this⟩
        clear HI hkl hk
        obtain ⟨nn, rfl⟩ := Int.eq_ofNat_of_zero_le hn0
        have hnn : nn ≤ 64 := by omega
        go_wp2_with (go_at_call 42; refine (blank_any nn _ (by omega)).mono ?_; rintro e w1 ⟨rfl, hTb, hb1⟩)
        have hB1 := hB0.keep hb1 hB0.lt
        have hbw1 : Below w.heap.size w w1 := below_all hb0 hb1
        have hWl : w.heap.size < W.heap.size := hB0.lt
        clear hB0 hb1 hE0 b0 b1 f0 f1 hb0
        generalize W.heap.size = G at hTb hWl ⊢
        go_loopw [9] (fun i wr => ∃ (k : Nat) (t : Nat → Nat → Bool), i = .int .i64 k ∧ k ≤ es.length ∧ TableAt wr G nn t ∧ Hid (t = readT (es.take k)) ∧ Hid (∀ e ∈ es.take k, e.1 ≠ e.2) ∧ Blk wr w.heap.size 25 #[.int .i64 0, .slice none 0 0] ∧ Below w.heap.size w wr) (fun i _ => es.length - (intOf i).toNat)
        case atStart => exact ⟨0, _, rfl, Nat.zero_le _, hTb, Lib.hid (by simp [readT]), Lib.hid (by simp), hB1, hbw1⟩
        case round =>
          clear hB1 hbw1 hTb
          obtain ⟨k, t, rfl, hk, hT, HT, HI, hB, hb⟩ := hrel
          have b0 := hB.cell 0
          have b1 := hB.cell 1
          have f0 := hB.frozen 0
          have f1 := hB.frozen 1
          simp at b0 b1
          by_cases hkl : k < es.length
          · have hkb : decide ((k : Int) < (es.length : Int)) = true := by simp; omega
            obtain ⟨ad, rfl, hc1, hc2⟩ := EdgesAt.at (hE.keep hb) hkl
            have HM : Hid (es[k] ∈ es) := Lib.hid (List.getElem_mem _)
            have HT2 : Hid (es.take (k + 1) = es.take k ++ [es[k]]) := Lib.hid (List.take_succ_eq_append_getElem hkl)
            have HA2 : Hid (readT (es.take (k + 1)) = joinT (readT (es.take k)) es[k].1.toNat es[k].2.toNat) := Lib.hid (readT_succ hkl)
            have hin := HOK.out.2 _ (List.getElem_mem hkl)
            obtain ⟨x, y, hp⟩ : ∃ x y, es[k] = (x, y) := ⟨_, _, rfl⟩
            rw [hp] at hc1 hc2 HM HT2 HA2 hin
            clear hp
            obtain ⟨p1, p2, p3, p4⟩ := hin
            simp only at hc1 hc2 p1 p2 p3 p4
            obtain ⟨i, rfl⟩ := Int.eq_ofNat_of_zero_le p1
            obtain ⟨j, rfl⟩ := Int.eq_ofNat_of_zero_le p3
            have k0 : (0 : Int) ≤ (k : Int) := by omega
            have k1 : (k : Int) < (es.length : Int) := by omega
            have hin2 : i < nn := by omega
            have hjn2 : j < nn := by omega
            by_cases hij : i = j
            · subst hij
              have HBAD : Hid (∃ x ∈ es, x.1 = x.2) := Lib.hid ⟨_, HM.out, rfl⟩
              go_wp2
              go_quiet (fail)
              go_wp2
              refine bodyPost_ret (v := .tuple #[zeroG, .int .i64 1]) (results_g (p := 4) (q := 5) rfl _ _ w.heap.size _ _ rfl (Blk.drewN (blk_two hB) _)) rfl ?_
              exact .inr (.inl ⟨HOK.out, HBAD.out, rfl, below_drewN ((hb.setCell (by simp) _).setCell (by simp) _) _⟩)
            · have hbe : (((i : Nat) : Int) == ((j : Nat) : Int)) = false := by simp; omega
              have ci := (hT.head.cell i).trans (farr_at nn _ hin2)
              have cj := (hT.head.cell j).trans (farr_at nn _ hjn2)
              unfold rowV at ci cj
              have cij := ((hT.row i hin2).cell j).trans (farr_at nn _ hjn2)
              have cji := ((hT.row j hjn2).cell i).trans (farr_at nn _ hin2)
              have fij := (hT.row i hin2).frozen j
              have fji := (hT.row j hjn2).frozen i
              have i0 : (0 : Int) ≤ (i : Int) := by omega
              have i1 : (i : Int) < (nn : Int) := by omega
              have j0 : (0 : Int) ≤ (j : Int) := by omega
              have j1 : (j : Int) < (nn : Int) := by omega
              generalize t i j = tij at cij
              generalize t j i = tji at cji
              have hT3 := (hT.set (b := j) hin2).set (b := i) hjn2
              have HT3 := Lib.hid hT3
              have HIJ := Lib.hid hij
              clear hT hT3
              go_wp2
              go_quiet (fail)
              go_wp2
              go_region
              go_wp2
              go_roundw
              case rel =>
                refine ⟨k + 1, joinT t i j, by go_num, by omega, ⟨HT3.out.head, HT3.out.row⟩, Lib.hid ?_, Lib.hid ?_, ?_, ?_⟩
                · rw [HA2.out, ← HT.out]; rfl
                · rw [HT2.out]
                  intro e he
                  rcases List.mem_append.1 he with h | h
                  · exact HI.out e h
                  · simp at h; subst h; have := HIJ.out; simp; omega
                · exact (hB.far (p := ⟨G + 1 + i, j, none⟩) (by simp; omega) (.bool true)).far (p := ⟨G + 1 + j, i, none⟩) (by simp; omega) (.bool true)
                · exact below_drewN ((hb.setCell (p := ⟨G + 1 + i, j, none⟩) (by simp; omega) (.bool true)).setCell (p := ⟨G + 1 + j, i, none⟩) (by simp; omega) (.bool true)) _
              case measure => simp [intOf]; omega
          · obtain rfl : k = es.length := by omega
            have HA2 : Hid (t = readT es) := Lib.hid (by rw [HT.out, List.take_length])
            have HI2 : Hid (∀ e ∈ es, e.1 ≠ e.2) := Lib.hid (by have := HI.out; rwa [List.take_length] at this)
            clear HT HI
            go_wp2_with (go_at_call 43; refine (rwrite_any G nn t wr hT hnn).mono ?_; rintro e w2 ⟨F, d, rfl, hFd, hF, hb2⟩
                         have e0 := keep_cell hb2 b0
                         have e1 := keep_cell hb2 b1
                         have g0 := (hb2.frozen (p := ⟨w.heap.size, 0, none⟩) (Blk.lt hB)).trans f0
                         have g1 := (hb2.frozen (p := ⟨w.heap.size, 1, none⟩) (Blk.lt hB)).trans f1)
            refine bodyPost_ret (v := .tuple #[.agg #[.int .i64 nn, .slice F (tableEdges t nn nn).length d], .int .i64 0]) (by simp [results, Tryd.results14, go_sem, e0, e1]) rfl ?_
            refine .inr (.inr ⟨HOK.out, HI2.out, F, d, ?_, ?_, ((below_all hb hb2).setCell (by simp) _).setCell (by simp) _⟩)
            · rw [← HA2.out]; rfl
            · rw [← HA2.out]
              have hlo : w.heap.size < wr.heap.size := Blk.lt hB
              exact own_base (ownsRow_setCell_below (ownsRow_setCell_below hF (by simpa using hlo) _) (by simpa using hlo) _) (by omega)
  · have HBAD : Hid (¬ rangeOk n es) := Lib.hid (fun h => hn h.1)
    by_cases h1 : n < 0
    · have d1 : decide (n < 0) = true := by simpa using h1
      clear hn
      go_enter Tryd.func14, Tryd.ntmps14
      go_wp2
      refine bodyPost_ret (v := .tuple #[zeroG, .int .i64 3]) (by simp [results, Tryd.results14, go_sem, zeroG]) rfl ?_
      exact .inl ⟨HBAD.out, rfl, (Below.refl _ _).alloc (Nat.le_refl _) _⟩
    · have d1 : decide (n < 0) = false := by simpa using h1
      have d2 : decide (64 < n) = true := by simp; omega
      clear hn
      go_enter Tryd.func14, Tryd.ntmps14
      go_wp2
      refine bodyPost_ret (v := .tuple #[zeroG, .int .i64 3]) (by simp [results, Tryd.results14, go_sem, zeroG]) rfl ?_
      exact .inl ⟨HBAD.out, rfl, (Below.refl _ _).alloc (Nat.le_refl _) _⟩
end Go.Proofs.Tg
