/- The texts XN, XO, LH, in one. -/
import Derived.Test.YtamipjpcphghaaaDoorKA
import Derived.Test.YtamipjpcphghaaaDoorXK
import Derived.Test.YtamipjpcphghaaaDoorWI
import Derived.Laws.CopyOwn
import Derived.StillTailTactics
import Derived.Test.YtamipjpcphghaaaDoorXI
import Derived.Test.YtamipjpcphghaaaDoorXC
import Derived.Test.YtamipjpcphghaaaDoorXH
import Derived.Test.YtamipjpcphghaaaDoorWU
import Derived.Test.YtamipjpcphghaaaDoorWQ
import Derived.Test.YtamipjpcphghaaaDoorWS
section
/- The reference's Fill. -/
namespace Go.Gr
def cntR (t : Nat → Nat → Bool) (gone : Nat → Bool) (i k : Nat) : Nat := ((List.range k).filter fun j => t i j && !gone j).length
theorem cntR_succ (t : Nat → Nat → Bool) (gone : Nat → Bool) (i k : Nat) : cntR t gone i (k + 1) = cntR t gone i k + if (t i k && !gone k) = true then 1 else 0 := by
  unfold cntR
  rw [List.range_succ, List.filter_append, List.length_append]
  cases h : (t i k && !gone k) <;> simp [h]
theorem cntR_le (t : Nat → Nat → Bool) (gone : Nat → Bool) (i k : Nat) : cntR t gone i k ≤ k := by
  unfold cntR
  exact Nat.le_trans (List.length_filter_le _ _) (by simp)
def minStepR (t : Nat → Nat → Bool) (n : Nat) (gone : Nat → Bool) (bm : Int × Int) (i : Nat) : Int × Int := if gone i = false ∧ ((cntR t gone i n : Nat) : Int) < bm.2 then ((i : Int), ((cntR t gone i n : Nat) : Int)) else bm
def minR (t : Nat → Nat → Bool) (n : Nat) (gone : Nat → Bool) (k : Nat) : Int × Int := (List.range k).foldl (minStepR t n gone) (-1, (n : Int) + 1)
theorem minR_succ (t : Nat → Nat → Bool) (n : Nat) (gone : Nat → Bool) (k : Nat) : minR t n gone (k + 1) = minStepR t n gone (minR t n gone k) k := by simp [minR, List.range_succ]
/-- What the choice comes to: the first of those with the fewest. -/
theorem minR_spec (t : Nat → Nat → Bool) (n : Nat) (gone : Nat → Bool) : ∀ k, (minR t n gone k = (-1, (n : Int) + 1) ∧ ∀ j, j < k → gone j = true) ∨
    ∃ i, i < k ∧ gone i = false ∧ minR t n gone k = ((i : Int), ((cntR t gone i n : Nat) : Int)) ∧ (∀ j, j < k → gone j = false → cntR t gone i n ≤ cntR t gone j n) ∧ (∀ j, j < i → gone j = false → cntR t gone i n < cntR t gone j n)
  | 0 => .inl ⟨rfl, fun j h => by omega⟩
  | k + 1 => by
    rw [minR_succ]
    rcases minR_spec t n gone k with ⟨h1, h2⟩ | ⟨i, hi, hg, he, hm, hf⟩
    · rw [h1]
      cases hk : gone k
      · right
        refine ⟨k, by omega, hk, ?_, fun j hj hgj => ?_, fun j hj hgj => ?_⟩
        · unfold minStepR
          rw [if_pos ⟨hk, by have := cntR_le t gone k n; simp; omega⟩]
        · by_cases e : j = k
          · rw [e]; exact Nat.le_refl _
          · rw [h2 j (by omega)] at hgj; cases hgj
        · rw [h2 j hj] at hgj; cases hgj
      · left
        refine ⟨by unfold minStepR; rw [if_neg (by rw [hk]; simp)], fun j hj => ?_⟩
        by_cases e : j = k
        · rw [e]; exact hk
        · exact h2 j (by omega)
    · right
      rw [he]
      by_cases hc : gone k = false ∧ cntR t gone k n < cntR t gone i n
      · refine ⟨k, by omega, hc.1, ?_, fun j hj hgj => ?_, fun j hj hgj => ?_⟩
        · unfold minStepR; rw [if_pos ⟨hc.1, by simp; omega⟩]
        · by_cases e : j = k
          · rw [e]; exact Nat.le_refl _
          · have := hm j (by omega) hgj; omega
        · have := hm j hj hgj; omega
      · refine ⟨i, by omega, hg, ?_, fun j hj hgj => ?_, hf⟩
        · unfold minStepR; rw [if_neg (fun h => hc ⟨h.1, by have := h.2; simp at this; omega⟩)]
        · by_cases e : j = k
          · subst e
            by_cases hlt : cntR t gone j n < cntR t gone i n
            · exact absurd ⟨hgj, hlt⟩ hc
            · omega
          · exact hm j (by omega) hgj
def stepF (gone : Nat → Bool) (best a : Nat) (t : Nat → Nat → Bool) (b : Nat) : Nat → Nat → Bool := if (!gone a && !gone b && t best a && t best b) = true then joinT t a b else t
def rowF (gone : Nat → Bool) (best a : Nat) (t : Nat → Nat → Bool) (k : Nat) : Nat → Nat → Bool := (List.range k).foldl (stepF gone best a) t
theorem rowF_succ (gone : Nat → Bool) (best a : Nat) (t : Nat → Nat → Bool) (k : Nat) : rowF gone best a t (k + 1) = stepF gone best a (rowF gone best a t k) k := by simp [rowF, List.range_succ]
def allF (gone : Nat → Bool) (best : Nat) (t : Nat → Nat → Bool) (k : Nat) : Nat → Nat → Bool := (List.range k).foldl (fun t a => rowF gone best a t a) t
theorem allF_succ (gone : Nat → Bool) (best : Nat) (t : Nat → Nat → Bool) (k : Nat) : allF gone best t (k + 1) = rowF gone best k (allF gone best t k) k := by simp [allF, List.range_succ]
/-- The table, and what is gone, after r steps. -/
def fillTo (t : Nat → Nat → Bool) (n : Nat) : Nat → (Nat → Nat → Bool) × (Nat → Bool)
  | 0 => (t, fun _ => false)
  | r + 1 => (allF (fillTo t n r).2 (minR (fillTo t n r).1 n (fillTo t n r).2 n).1.toNat (fillTo t n r).1 n, updF (fillTo t n r).2 (minR (fillTo t n r).1 n (fillTo t n r).2 n).1.toNat true)
theorem fill_left {t : Nat → Nat → Bool} {n : Nat} : ∀ r, r ≤ n → ∃ l : List Nat, l.length = r ∧ ∀ v, (fillTo t n r).2 v = true → v ∈ l
  | 0, _ => ⟨[], rfl, fun v h => by cases h⟩
  | r + 1, hr => by
    obtain ⟨l, h1, h2⟩ := fill_left (t := t) (n := n) r (by omega)
    refine ⟨(minR (fillTo t n r).1 n (fillTo t n r).2 n).1.toNat :: l, by simp [h1], fun v hv => ?_⟩
    have hv : updF (fillTo t n r).2 (minR (fillTo t n r).1 n (fillTo t n r).2 n).1.toNat true v = true := hv
    unfold updF at hv
    by_cases e : v = (minR (fillTo t n r).1 n (fillTo t n r).2 n).1.toNat
    · simp [e]
    · rw [if_neg e] at hv
      simp [h2 v hv]
theorem fill_best {t : Nat → Nat → Bool} {n r : Nat} (hr : r < n) : ∃ i c : Nat, i < n ∧ minR (fillTo t n r).1 n (fillTo t n r).2 n = ((i : Int), (c : Int)) := by
  rcases minR_spec (fillTo t n r).1 n (fillTo t n r).2 n with ⟨_, h2⟩ | ⟨i, hi, _, he, _⟩
  · exfalso
    obtain ⟨l, h3, h4⟩ := fill_left (t := t) (n := n) r (by omega)
    have := cover_le n l (fun v hv => h4 v (h2 v hv))
    omega
  · exact ⟨i, _, hi, he⟩
end Go.Gr
namespace Go.Proofs.Tg
open Go.RowKit Go.Gr
set_option maxHeartbeats 4000000
set_option maxRecDepth 100000
theorem TableAt.far {w : World} {g n : Nat} {t : Nat → Nat → Bool} (h : TableAt w g n t) {p : Addr} (h0 : p.block ≠ g) (h1 : ∀ i, i < n → p.block ≠ g + 1 + i) (u : Value) : TableAt (w.setCell p u) g n t :=
  ⟨h.head.far (fun e => h0 e.symm) u, fun i hi => (h.row i hi).far (fun e => h1 i hi e.symm) u⟩
theorem TableAt.setRow {w : World} {g n k : Nat} {t : Nat → Nat → Bool} (h : TableAt w g n t) (hk : k < n) (f : Nat → Bool) : TableAt (w.setRow (g + 1 + k) (farr n fun j => .bool (f j))) g n (fun i j => if i = k then f j else t i j) := by
  refine ⟨blk_setRow_far h.head (by omega) _, fun i hi => ?_⟩
  by_cases e : i = k
  · subst e
    have := blk_setRow (h.row i hi) (farr n fun j => .bool (f j))
    simpa using this
  · have := blk_setRow_far (h.row i hi) (g' := g + 1 + k) (by omega) (farr n fun j => .bool (f j))
    simpa [e] using this
theorem bool_size : (Tryd.prog.info? 4).map (·.size) = some 1 := by kernel_rfl
theorem rfill_any (g n : Nat) (t : Nat → Nat → Bool) (w : World) (hT : TableAt w g n t) (hn : n ≤ 64) :
    Calls Tryd.prog 45 #[.slice (some ⟨g, 0, none⟩) n n] w (RetTable n (fillTo t n n).1 w) := by
  have hgl0 : g < w.heap.size := hT.head.lt
  go_enter Tryd.func45, Tryd.ntmps45
  go_wp2_with (go_at_call 42; refine (blank_any n _ (by omega)).mono ?_; rintro e w1 ⟨rfl, hTb, hb1⟩)
  generalize hGd : w.heap.size = G at hTb ⊢
  have hGw : w.heap.size ≤ G := by omega
  have hGw2 : G ≤ w.heap.size := by omega
  have HGD := Lib.hid hGd
  clear hGd
  go_loopw [4] (fun x wr => ∃ k : Nat, x = .int .i64 k ∧ k ≤ n ∧ TableAt wr G n (fun i j => decide (i < k) && t i j) ∧ Below w.heap.size w wr) (fun x _ => n - (intOf x).toNat)
  case atStart =>
    refine ⟨0, rfl, Nat.zero_le _, ?_, hb1⟩
    have e : (fun i j => decide (i < 0) && t i j) = fun _ _ => false := by funext i j; simp
    rw [e]; exact hTb
  case round =>
    clear hTb hb1
    obtain ⟨k, rfl, hk, hO, hb⟩ := hrel
    have hTr := hT.keep hb (Nat.le_refl _)
    by_cases hkn : k < n
    · have hkb : decide ((k : Int) < (n : Int)) = true := by simp; omega
      have c1 := (hO.head.cell k).trans (farr_at n _ hkn)
      have c2 := (hTr.head.cell k).trans (farr_at n _ hkn)
      unfold rowV at c1 c2
      have k0 : (0 : Int) ≤ (k : Int) := by omega
      have k1 : (k : Int) < (n : Int) := by omega
      have HO := Lib.hid hO
      have HTR := Lib.hid hTr
      clear hO hTr
      have hcopy : (((farr n fun j => Value.bool (decide (k < k) && t k j)).toList.take 0 ++ (((List.range n).map fun j => Value.bool (t k j)) ++ (farr n fun j => Value.bool (decide (k < k) && t k j)).toList.drop (0 + ((List.range n).map fun j => Value.bool (t k j)).length))).toArray) = farr n fun j => .bool (t k j) := by
        simp [farr]
      have HCP := Lib.hid hcopy
      clear hcopy
      go_wp2
      go_still_tail 8, (by kernel_rfl)
      change wpList _ _ _ _ _ wr.drew
      refine wpList_copy_own rfl (.tmp 26) (.tmp 30) 62 62 rfl 4 Tryd.underlying62 bool_size (G + 1 + k) 0 n n ⟨g + 1 + k, 0, none⟩ n n rfl rfl (farr n fun j => .bool (decide (k < k) && t k j)) 4 (HO.out.row k hkn) ((List.range n).map fun j => .bool (t k j)) (by simp) ?c1 (by simp [farr]) (by simp [Value.oneCell']) ?_
      case c1 =>
        intro j v hv
        have hj : j < n := by
          have := (List.getElem?_eq_some_iff.1 hv).1
          simpa using this
        rw [add_lit, Nat.zero_add]
        have := ((HTR.out.row k hkn).cell j).trans (farr_at n _ hj)
        simp [hj] at hv
        rw [← hv]
        exact this
      rw [HCP.out]
      have hO2 := TableAt.setRow (HO.out.drew) hkn (fun j => t k j)
      have hO3 : TableAt (wr.drew.setRow (G + 1 + k) (farr n fun j => .bool (t k j))) G n (fun i j => decide (i < k + 1) && t i j) := by
        have e : (fun i j => if i = k then t k j else decide (i < k) && t i j) = fun i j => decide (i < k + 1) && t i j := by
          funext i j
          by_cases h : i = k
          · simp [h]
          · rw [if_neg h]
            have : decide (i < k) = decide (i < k + 1) := by rw [Bool.eq_iff_iff]; simp; omega
            rw [this]
        rw [← e]; exact hO2
      have hb3 : Below w.heap.size w (wr.drew.setRow (G + 1 + k) (farr n fun j => .bool (t k j))) := below_setRow hb.drew (by omega) _
      clear hO2
      generalize wr.drew.setRow (G + 1 + k) (farr n fun j => .bool (t k j)) = W2 at hO3 hb3 ⊢
      go_wp2
      go_roundw
      case rel => exact ⟨k + 1, by go_num, by omega, hO3, hb3⟩
      case measure => simp [intOf]; omega
    · obtain rfl : k = n := by omega
      have hkb : decide ((k : Int) < (k : Int)) = false := by simp
      have hO1 : TableAt wr G k (fillTo t k 0).1 := by
        refine ⟨hO.head, fun i hi => ?_⟩
        have := hO.row i hi
        rw [show (farr k fun j => Value.bool (decide (i < k) && t i j)) = farr k fun j => Value.bool ((fillTo t k 0).1 i j) from farr_congr (fun j _ => by simp [hi, fillTo])] at this
        exact this
      have m1 := fun W => make_bools k (by omega) W
      have hGl : ∀ i, i < k → G + 1 + i < wr.heap.size := fun i hi => (hO.row i hi).lt
      have hGl0 : G < wr.heap.size := hO.head.lt
      clear hO hkn hTr
      go_wp2
      clear m1
      have hB0 := Blk.new wr 4 (farr k fun _ => .bool false)
      have hO2 := hO1.keep ((Below.refl wr.heap.size wr).alloc (Nat.le_refl _) (.cells (farr k fun _ => .bool false) 4)) (Nat.le_refl _)
      have hb2 : Below w.heap.size w (wr.alloc (.cells (farr k fun _ => .bool false) 4)) := hb.alloc hb.size _
      have hwr := hb.size
      generalize wr.alloc (.cells (farr k fun _ => .bool false) 4) = W2 at hB0 hO2 hb2 ⊢
      generalize wr.heap.size = Gg at hB0 hGl hGl0 hwr ⊢
      have HGL := Lib.hid hGl
      clear hGl hb hO1
      go_loopw [6] (fun x wr => ∃ l : Nat, x = .int .i64 l ∧ l ≤ k ∧ TableAt wr G k (fillTo t k (k - l)).1 ∧ Blk wr Gg 4 (farr k fun v => .bool ((fillTo t k (k - l)).2 v)) ∧ Below w.heap.size w wr) (fun x _ => (intOf x).toNat)
      case atStart => exact ⟨k, rfl, Nat.le_refl _, by rw [Nat.sub_self]; exact hO2, by rw [Nat.sub_self]; exact hB0, hb2⟩
      case round =>
        clear hB0 hO2 hb2
        obtain ⟨l, rfl, hl, hO, hG, hb⟩ := hrel
        by_cases hl0 : 0 < l
        · have hlb : decide ((0 : Int) < (l : Int)) = true := by simp; omega
          have hlb' : decide (0 < l) = true := by simp; omega
          obtain ⟨bi, bc, hbi, hbest⟩ := fill_best (t := t) (n := k) (r := k - l) (by omega)
          have HN : Hid (fillTo t k (k - (l - 1)) = (allF (fillTo t k (k - l)).2 bi (fillTo t k (k - l)).1 k, updF (fillTo t k (k - l)).2 bi true)) := Lib.hid (by
            rw [show k - (l - 1) = k - l + 1 from by omega]
            show (allF _ (minR (fillTo t k (k - l)).1 k (fillTo t k (k - l)).2 k).1.toNat _ k, updF _ (minR (fillTo t k (k - l)).1 k (fillTo t k (k - l)).2 k).1.toNat true) = _
            rw [hbest]; rfl)
          have HBE := Lib.hid hbest
          clear hbest
          generalize (fillTo t k (k - l)).1 = u at HN HBE hO
          generalize (fillTo t k (k - l)).2 = gone at HN HBE hG
          go_wp2
          go_loopw [9, 7, 8] (fun x b m wr => ∃ i : Nat, x = .int .i64 i ∧ i ≤ k ∧ b = .int .i64 (minR u k gone i).1 ∧ m = .int .i64 (minR u k gone i).2 ∧ TableAt wr G k u ∧ Blk wr Gg 4 (farr k fun v => .bool (gone v)) ∧ Below w.heap.size w wr) (fun x _ _ _ => k - (intOf x).toNat)
          case atStart => exact ⟨0, rfl, Nat.zero_le _, rfl, rfl, hO, hG, hb⟩
          case round =>
            clear hO hG hb
            obtain ⟨i, rfl, hi, rfl, rfl, hO, hG, hb⟩ := hrel
            by_cases hik : i < k
            · have hib : decide ((i : Int) < (k : Int)) = true := by simp; omega
              have HMS := Lib.hid (minR_succ u k gone i)
              generalize minR u k gone i = bm at HMS ⊢
              obtain ⟨b1, b2⟩ := bm
              unfold minStepR at HMS
              simp only at HMS ⊢
              have i0 : (0 : Int) ≤ (i : Int) := by omega
              have i1 : (i : Int) < (k : Int) := by omega
              have ci := (hO.head.cell i).trans (farr_at k _ hik)
              unfold rowV at ci
              have cgi := (hG.cell i).trans (farr_at k _ hik)
              go_wp2
              go_loop [11, 10] (fun x s => ∃ q c : Nat, x = .int .i64 q ∧ q ≤ k ∧ s = .int .i64 c ∧ c ≤ q ∧ Hid (c = cntR u gone i q)) (fun x _ => k - (intOf x).toNat)
              case atStart => exact ⟨0, 0, rfl, Nat.zero_le _, rfl, Nat.le_refl _, Lib.hid (by simp [cntR])⟩
              case round =>
                obtain ⟨q, c, rfl, hq, rfl, hcq, HC⟩ := hrel
                by_cases hqk : q < k
                · have hqb : decide ((q : Int) < (k : Int)) = true := by simp; omega
                  have ciq := ((hO.row i hik).cell q).trans (farr_at k _ hqk)
                  have cgq := (hG.cell q).trans (farr_at k _ hqk)
                  have HS := Lib.hid (cntR_succ u gone i q)
                  have q0 : (0 : Int) ≤ (q : Int) := by omega
                  have q1 : (q : Int) < (k : Int) := by omega
                  generalize u i q = uq at ciq HS
                  generalize gone q = gq at cgq HS
                  cases uq
                  · have HC2 : Hid (c = cntR u gone i (q + 1)) := Lib.hid (by rw [HS.out, HC.out]; simp)
                    clear HC HS
                    go_wp2
                    go_round
                    case rel => exact ⟨q + 1, c, by go_num, by omega, rfl, by omega, HC2⟩
                    case measure => simp [intOf]; omega
                  · cases gq
                    · have HC2 : Hid (c + 1 = cntR u gone i (q + 1)) := Lib.hid (by rw [HS.out, HC.out]; simp)
                      clear HC HS
                      go_wp2
                      go_round
                      case rel => exact ⟨q + 1, c + 1, by go_num, by omega, by go_num, by omega, HC2⟩
                      case measure => simp [intOf]; omega
                    · have HC2 : Hid (c = cntR u gone i (q + 1)) := Lib.hid (by rw [HS.out, HC.out]; simp)
                      clear HC HS
                      go_wp2
                      go_round
                      case rel => exact ⟨q + 1, c, by go_num, by omega, rfl, by omega, HC2⟩
                      case measure => simp [intOf]; omega
                · obtain rfl : q = k := by omega
                  have hqb : decide ((q : Int) < (q : Int)) = false := by simp
                  rw [← HC.out] at HMS
                  clear HC
                  generalize gone i = gi at cgi HMS
                  cases gi
                  · by_cases hlt : (c : Int) < b2
                    · have d1 : decide ((c : Int) < b2) = true := by simpa using hlt
                      rw [if_pos ⟨rfl, hlt⟩] at HMS
                      go_wp2
                      go_roundw
                      case rel => exact ⟨i + 1, by go_num, by omega, by rw [HMS.out], by rw [HMS.out], hO, hG, hb⟩
                      case measure => simp [intOf]; omega
                    · have d1 : decide ((c : Int) < b2) = false := by simpa using hlt
                      rw [if_neg (fun h => hlt h.2)] at HMS
                      go_wp2
                      go_roundw
                      case rel => exact ⟨i + 1, by go_num, by omega, by rw [HMS.out], by rw [HMS.out], hO, hG, hb⟩
                      case measure => simp [intOf]; omega
                  · rw [if_neg (fun h => by cases h.1)] at HMS
                    go_wp2
                    go_roundw
                    case rel => exact ⟨i + 1, by go_num, by omega, by rw [HMS.out], by rw [HMS.out], hO, hG, hb⟩
                    case measure => simp [intOf]; omega
            · obtain rfl : i = k := by omega
              have hib : decide ((i : Int) < (i : Int)) = false := by simp
              rw [HBE.out]
              simp only
              clear HBE
              have b0 : (0 : Int) ≤ (bi : Int) := by omega
              have b1 : (bi : Int) < (i : Int) := by omega
              go_wp2
              go_loopw [12] (fun x wr => ∃ a : Nat, x = .int .i64 a ∧ a ≤ i ∧ TableAt wr G i (allF gone bi u a) ∧ Blk wr Gg 4 (farr i fun v => .bool (gone v)) ∧ Below w.heap.size w wr) (fun x _ => i - (intOf x).toNat)
              case atStart => exact ⟨0, rfl, Nat.zero_le _, hO, hG, hb⟩
              case round =>
                clear hO hG hb
                obtain ⟨a, rfl, ha, hO, hG, hb⟩ := hrel
                by_cases hai : a < i
                · have hab : decide ((a : Int) < (i : Int)) = true := by simp; omega
                  have a0 : (0 : Int) ≤ (a : Int) := by omega
                  have a1 : (a : Int) < (i : Int) := by omega
                  go_wp2
                  go_loopw [13] (fun x wr => ∃ b : Nat, x = .int .i64 b ∧ b ≤ a ∧ TableAt wr G i (rowF gone bi a (allF gone bi u a) b) ∧ Blk wr Gg 4 (farr i fun v => .bool (gone v)) ∧ Below w.heap.size w wr) (fun x _ => a - (intOf x).toNat)
                  case atStart => exact ⟨0, rfl, Nat.zero_le _, hO, hG, hb⟩
                  case round =>
                    clear hO hG hb
                    obtain ⟨b, rfl, hb', hO, hG, hb⟩ := hrel
                    by_cases hba : b < a
                    · have hbb : decide ((b : Int) < (a : Int)) = true := by simp; omega
                      have hbi2 : b < i := by omega
                      have c0 : (0 : Int) ≤ (b : Int) := by omega
                      have c1 : (b : Int) < (i : Int) := by omega
                      have HS := Lib.hid (rowF_succ gone bi a (allF gone bi u a) b)
                      generalize rowF gone bi a (allF gone bi u a) b = v at HS hO
                      unfold stepF at HS
                      have cga := (hG.cell a).trans (farr_at i _ hai)
                      have cgb := (hG.cell b).trans (farr_at i _ hbi2)
                      have cbi := (hO.head.cell bi).trans (farr_at i _ hbi)
                      unfold rowV at cbi
                      have cva := ((hO.row bi hbi).cell a).trans (farr_at i _ hai)
                      have cvb := ((hO.row bi hbi).cell b).trans (farr_at i _ hbi2)
                      have HGa : Hid (gone a = gone a) := Lib.hid rfl
                      obtain ⟨ga, hga⟩ : ∃ x, gone a = x := ⟨_, rfl⟩
                      obtain ⟨gb, hgb⟩ : ∃ x, gone b = x := ⟨_, rfl⟩
                      obtain ⟨va, hva⟩ : ∃ x, v bi a = x := ⟨_, rfl⟩
                      obtain ⟨vb, hvb⟩ : ∃ x, v bi b = x := ⟨_, rfl⟩
                      rw [hga] at cga HS
                      rw [hgb] at cgb HS
                      rw [hva] at cva HS
                      rw [hvb] at cvb HS
                      clear hga hgb hva hvb HGa
                      cases ga
                      · cases gb
                        · cases va
                          · have HK2 : Hid (TableAt wr G i (rowF gone bi a (allF gone bi u a) (b + 1))) := Lib.hid (by rw [HS.out]; exact hO)
                            clear HS
                            go_wp2
                            go_roundw
                            case rel => exact ⟨b + 1, by go_num, by omega, HK2.out, hG, hb⟩
                            case measure => simp [intOf]; omega
                          · cases vb
                            · have HK2 : Hid (TableAt wr G i (rowF gone bi a (allF gone bi u a) (b + 1))) := Lib.hid (by rw [HS.out]; exact hO)
                              clear HS
                              go_wp2
                              go_roundw
                              case rel => exact ⟨b + 1, by go_num, by omega, HK2.out, hG, hb⟩
                              case measure => simp [intOf]; omega
                            · have HK2 : Hid (rowF gone bi a (allF gone bi u a) (b + 1) = joinT v a b) := Lib.hid (by rw [HS.out]; rfl)
                              clear HS
                              have ca := (hO.head.cell a).trans (farr_at i _ hai)
                              have cb := (hO.head.cell b).trans (farr_at i _ hbi2)
                              unfold rowV at ca cb
                              have cab := ((hO.row a hai).cell b).trans (farr_at i _ hbi2)
                              have cba := ((hO.row b hbi2).cell a).trans (farr_at i _ hai)
                              have fab := (hO.row a hai).frozen b
                              have fba := (hO.row b hbi2).frozen a
                              have HT3 := Lib.hid ((hO.set (b := b) hai).set (b := a) hbi2)
                              have HGA := HGL.out a hai
                              have HGB := HGL.out b hbi2
                              generalize v a b = vab at cab
                              generalize v b a = vba at cba
                              clear hO
                              go_wp2
                              go_region
                              go_wp2
                              go_roundw
                              case rel =>
                                refine ⟨b + 1, by go_num, by omega, ?_, ?_, ?_⟩
                                · rw [HK2.out]; exact ⟨HT3.out.head, HT3.out.row⟩
                                · exact (hG.far (p := ⟨G + 1 + a, b, none⟩) (by simp; omega) (.bool true)).far (p := ⟨G + 1 + b, a, none⟩) (by simp; omega) (.bool true)
                                · exact below_drewN ((hb.setCell (p := ⟨G + 1 + a, b, none⟩) (by simp; omega) (.bool true)).setCell (p := ⟨G + 1 + b, a, none⟩) (by simp; omega) (.bool true)) _
                              case measure => simp [intOf]; omega
                        · have HK2 : Hid (TableAt wr G i (rowF gone bi a (allF gone bi u a) (b + 1))) := Lib.hid (by rw [HS.out]; exact hO)
                          clear HS
                          go_wp2
                          go_roundw
                          case rel => exact ⟨b + 1, by go_num, by omega, HK2.out, hG, hb⟩
                          case measure => simp [intOf]; omega
                      · have HK2 : Hid (TableAt wr G i (rowF gone bi a (allF gone bi u a) (b + 1))) := Lib.hid (by rw [HS.out]; exact hO)
                        clear HS
                        go_wp2
                        go_roundw
                        case rel => exact ⟨b + 1, by go_num, by omega, HK2.out, hG, hb⟩
                        case measure => simp [intOf]; omega
                    · obtain rfl : b = a := by omega
                      have hbb : decide ((b : Int) < (b : Int)) = false := by simp
                      have HK2 : Hid (TableAt wr G i (allF gone bi u (b + 1))) := Lib.hid (by rw [allF_succ]; exact hO)
                      go_wp2
                      go_roundw
                      case rel => exact ⟨b + 1, by go_num, by omega, HK2.out, hG, hb⟩
                      case measure => simp [intOf]; omega
                · obtain rfl : a = i := by omega
                  have hab : decide ((a : Int) < (a : Int)) = false := by simp
                  have cg := (hG.cell bi).trans (farr_at a _ hbi)
                  have fg := hG.frozen bi
                  have HO2 : Hid (TableAt (wr.setCell ⟨Gg, bi, none⟩ (.bool true)) G a (fillTo t a (a - (l - 1))).1) := Lib.hid (by
                    rw [HN.out]
                    exact hO.far (by simp; omega) (fun j hj => by have := HGL.out j hj; simp; omega) _)
                  have HG2 : Hid (Blk (wr.setCell ⟨Gg, bi, none⟩ (.bool true)) Gg 4 (farr a fun v => .bool ((fillTo t a (a - (l - 1))).2 v))) := Lib.hid (by
                    rw [HN.out]
                    have := hG.set (i := bi) (.bool true)
                    rw [farr_upd (fun v : Bool => Value.bool v) gone] at this
                    exact this)
                  have HB2 : Hid (Below w.heap.size w (wr.setCell ⟨Gg, bi, none⟩ (.bool true))) := Lib.hid (hb.setCell (by simp; omega) _)
                  go_wp2
                  go_roundw
                  case rel => exact ⟨l - 1, by go_num, by omega, HO2.out, HG2.out, HB2.out⟩
                  case measure => simp [intOf]; omega
        · obtain rfl : l = 0 := by omega
          have hlb : decide ((0 : Int) < ((0 : Nat) : Int)) = false := by simp
          go_wp2
          go_ret
          exact ⟨G, hGw, rfl, hO, hb⟩
end Go.Proofs.Tg
end

section
/- The reference's Extend and Cliques. -/
namespace Go.Gr
def fillEs (n : Nat) (es : List (Int × Int)) : List (Int × Int) := tableEdges (fillTo (readT es) n n).1 n n
theorem fillEs_valid {n : Nat} {es : List (Int × Int)} (hn : n ≤ 64) : valid n (fillEs n es) := tableEdges_valid _ hn
theorem fillEs_len {n : Nat} {es : List (Int × Int)} (hn : n ≤ 64) : (fillEs n es).length ≤ 4096 := by
  have := tableEdges_len (fillTo (readT es) n n).1 n n
  have h2 : n * n ≤ 64 * 64 := Nat.mul_le_mul hn hn
  unfold fillEs
  omega
end Go.Gr
namespace Go.Proofs.Tg
open Go.RowKit Go.Gr
set_option maxHeartbeats 4000000
set_option maxRecDepth 100000
def RetFill (n : Nat) (es : List (Int × Int)) (w : World) (e : Ending) (w' : World) : Prop :=
  ∃ xs F d, xs = fillEs n es ∧ e = .returned (.tuple #[.agg #[.int .i64 n, .slice F (List.length xs) d], .int .i64 0]) ∧ w'.ownsRow w.heap.size 46 2 (.slice F xs.length d) xs.length (ecells xs) ∧ Below w.heap.size w w'
theorem rext_any (n : Nat) (E : Option Addr) (c : Nat) (es : List (Int × Int)) (w : World) (hE : EdgesAt w E es) (hl : es.length ≤ 1000000) (hv : valid n es) :
    Calls Tryd.prog 17 #[.agg #[.int .i64 n, .slice E es.length c]] w (RetFill n es w) := by
  have hn : n ≤ 64 := by have := hv.2.1; omega
  have hbA : Below w.heap.size w ((w.alloc (.cells #[.int .i64 n, .slice E es.length c] 25)).alloc (.cells #[.int .i64 0, .slice none 0 0] 25)) := ((Below.refl _ _).alloc (Nat.le_refl _) _).alloc (by simp) _
  have hB := (Blk.new w 25 #[.int .i64 n, .slice E es.length c]).alloc (.cells #[.int .i64 0, .slice none 0 0] 25)
  have hB2 : Blk ((w.alloc (.cells #[.int .i64 n, .slice E es.length c] 25)).alloc (.cells #[.int .i64 0, .slice none 0 0] 25)) (w.heap.size + 1) 25 #[.int .i64 0, .slice none 0 0] := by
    have := Blk.new (w.alloc (.cells #[.int .i64 n, .slice E es.length c] 25)) 25 #[.int .i64 0, .slice none 0 0]
    simpa using this
  have HV1 := Lib.hid (rvalid_any n E c es true _ (hE.keep hbA) hl (by simp [hv]))
  have HV2 := Lib.hid hv
  clear hv
  go_enter Tryd.func17, Tryd.ntmps17
  go_wp2_with (first
    | (go_at_call 35; refine HV1.out.mono ?_; rintro e w1 ⟨rfl, hb1⟩
       have hB' := hB.keep hb1 hB.lt
       have hB2' := hB2.keep hb1 hB2.lt
       have hbw1 : Below w.heap.size w w1 := below_all hbA hb1
       have c0 := hB'.cell 0
       have c1 := hB'.cell 1
       simp at c0 c1)
    | (go_at_call 46; refine (rread_any n E c es w1 (hE.keep hbw1) hl HV2.out).mono ?_; rintro e w2 ⟨g2, hg2, rfl, hT2, hb2⟩
       have hB3 := hB2'.keep hb2 hB2'.lt)
    | (go_at_call 45; refine (rfill_any g2 n (readT es) w2 hT2 hn).mono ?_; rintro e w3 ⟨g3, hg3, rfl, hT3, hb3⟩
       have hB4 := hB3.keep hb3 hB3.lt
       have d0 := hB4.cell 0
       have d1 := hB4.cell 1
       have f0 := hB4.frozen 0
       have f1 := hB4.frozen 1
       simp at d0 d1)
    | (go_at_call 43; refine (rwrite_any g3 n (fillTo (readT es) n n).1 w3 hT3 hn).mono ?_; rintro e w4 ⟨F, d, rfl, hFd, hF, hb4⟩
       have e0 := keep_cell hb4 d0
       have e1 := keep_cell hb4 d1
       have g0 := (hb4.frozen (p := ⟨w.heap.size + 1, 0, none⟩) (Blk.lt hB4)).trans f0
       have g1 := (hb4.frozen (p := ⟨w.heap.size + 1, 1, none⟩) (Blk.lt hB4)).trans f1))
  refine bodyPost_ret (v := .tuple #[.agg #[.int .i64 n, .slice F (tableEdges (fillTo (readT es) n n).1 n n).length d], .int .i64 0]) (by simp [results, Tryd.results17, go_sem, e0, e1]) rfl ?_
  have hlo : w.heap.size + 1 < w3.heap.size := Blk.lt hB4
  refine ⟨_, F, d, rfl, rfl, ?_, ((below_all (below_all (below_all hbw1 hb2) hb3) hb4).setCell (by simp) _).setCell (by simp) _⟩
  refine own_base (b := w3.heap.size) (ownsRow_setCell_below (ownsRow_setCell_below hF ?_ _) ?_ _) (by omega)
  · simpa using hlo
  · simpa using hlo
/-- What Cliques of the reference returns. -/
def RetRef (n : Nat) (es : List (Int × Int)) (w : World) (e : Ending) (w' : World) : Prop :=
  ∃ lo V d er, e = .returned (.tuple #[.slice V (List.length lo) d, .int .i64 er]) ∧ Lists w' V lo ∧
    ((triang (readT es) n = false ∧ lo = [] ∧ er = 11) ∨ (triang (readT es) n = true ∧ er = 0 ∧ lo.Perm ((keptI (maxTo (readT es) n n).2 (maxTo (readT es) n n).2.length).map fun i => (maxTo (readT es) n n).2.getD i []) ∧ sortedL lo)) ∧ Below w.heap.size w w'
theorem rclq_any (n : Nat) (E : Option Addr) (c : Nat) (es : List (Int × Int)) (w : World) (hE : EdgesAt w E es) (hl : es.length ≤ 1000000) (hv : valid n es) :
    Calls Tryd.prog 19 #[.agg #[.int .i64 n, .slice E es.length c]] w (RetRef n es w) := by
  have hn : n ≤ 64 := by have := hv.2.1; omega
  have hbA : Below w.heap.size w (w.alloc (.cells #[.int .i64 n, .slice E es.length c] 25)) := (Below.refl _ _).alloc (Nat.le_refl _) _
  have hB := Blk.new w 25 #[.int .i64 n, .slice E es.length c]
  have HV1 := Lib.hid (rvalid_any n E c es true _ (hE.keep hbA) hl (by simp [hv]))
  have HV2 := Lib.hid hv
  clear hv
  have HTR := Lib.hid (fun g w hT => rtri_any g n (readT es) w hT hn)
  unfold RetRef
  generalize triang (readT es) n = tr at HTR ⊢
  cases tr
  · go_enter Tryd.func19, Tryd.ntmps19
    go_wp2_with (first
      | (go_at_call 35; refine HV1.out.mono ?_; rintro e w1 ⟨rfl, hb1⟩
         have hB' := hB.keep hb1 hB.lt
         have hbw1 : Below w.heap.size w w1 := below_all hbA hb1
         have c0 := hB'.cell 0
         have c1 := hB'.cell 1
         simp at c0 c1)
      | (go_at_call 46; refine (rread_any n E c es w1 (hE.keep hbw1) hl HV2.out).mono ?_; rintro e w2 ⟨g2, hg2, rfl, hT2, hb2⟩
         have hbw2 : Below w.heap.size w w2 := below_all hbw1 hb2)
      | (go_at_call 57; refine (HTR.out g2 w2 hT2).mono ?_; rintro e w3 ⟨rfl, hb3⟩
         have hbw3 : Below w.heap.size w w3 := below_all hbw2 hb3))
    go_ret2
    exact ⟨[], none, 0, 11, rfl, ⟨fun _ => (none, 0), Sl.nil _ _ _, fun i hi2 => by simp at hi2⟩, .inl ⟨by simp, rfl, rfl⟩, hbw3⟩
  · go_enter Tryd.func19, Tryd.ntmps19
    go_wp2_with (first
      | (go_at_call 35; refine HV1.out.mono ?_; rintro e w1 ⟨rfl, hb1⟩
         have hB' := hB.keep hb1 hB.lt
         have hbw1 : Below w.heap.size w w1 := below_all hbA hb1
         have c0 := hB'.cell 0
         have c1 := hB'.cell 1
         simp at c0 c1)
      | (go_at_call 46; refine (rread_any n E c es w1 (hE.keep hbw1) hl HV2.out).mono ?_; rintro e w2 ⟨g2, hg2, rfl, hT2, hb2⟩
         have hbw2 : Below w.heap.size w w2 := below_all hbw1 hb2)
      | (go_at_call 57; refine (HTR.out g2 w2 hT2).mono ?_; rintro e w3 ⟨rfl, hb3⟩
         have hbw3 : Below w.heap.size w w3 := below_all hbw2 hb3
         have hT3 := hT2.keep hb3 (Nat.le_refl _))
      | (go_at_call 58; refine (rmax_any g2 n (readT es) w3 hT3 hn).mono ?_; rintro e w4 ⟨lo, V, d, rfl, hV, hp, hs, hb4⟩
         have HP := Lib.hid (And.intro hp hs); clear hp hs
         have hbw4 : Below w.heap.size w w4 := below_all hbw3 hb4))
    go_ret2
    exact ⟨lo, V, d, 0, rfl, hV, (.inr ⟨by simp, rfl, HP.out.1, HP.out.2⟩), hbw4⟩
end Go.Proofs.Tg
end

section
/- The statement GraphCliques, walked. -/
namespace Go.Proofs.Tg
open Go.RowKit Go.Gr
set_option maxHeartbeats 4000000
set_option maxRecDepth 100000
theorem asc_few {l : List Int} {n : Nat} (h : l.Pairwise (· < ·)) (hl : ∀ x ∈ l, 0 ≤ x ∧ x < n) : l.length ≤ n := by
  have : ∀ (i : Nat) (hi : i < l.length), (i : Int) ≤ l[i] := by
    intro i
    induction i with
    | zero => intro hi; exact (hl _ (List.getElem_mem _)).1
    | succ i ih =>
      intro hi
      have h1 := ih (by omega)
      have h2 := List.pairwise_iff_getElem.1 h i (i + 1) (by omega) hi (by omega)
      omega
  by_cases h0 : l.length = 0
  · omega
  · have h1 := this (l.length - 1) (by omega)
    have h2 := (hl _ (List.getElem_mem (l := l) (n := l.length - 1) (by omega))).2
    omega
/-- What Cliques of the library returns. -/
def CR (n : Nat) (es : List (Int × Int)) (ls : List (List Int)) (er : Int) : Prop :=
  (isChordal (readAll es) n = false ∧ ls = [] ∧ er = 11) ∨ (isChordal (readAll es) n = true ∧ er = 0 ∧ ls.Perm ((keepLast (cands (readAll es) n)).map vertsI) ∧ sortedL ls)
theorem CR.few {n : Nat} {es : List (Int × Int)} {ls : List (List Int)} {er : Int} (hv : valid n es) (h : CR n es ls er) : ls.length ≤ 64 ∧ ∀ l ∈ ls, l.length ≤ 64 := by
  have hn : n ≤ 64 := by have := hv.2.1; omega
  rcases h with ⟨_, rfl, _⟩ | ⟨hc, _, hp, _⟩
  · simp
  · have hQ := clq_es hv hc hp
    refine ⟨by have := hQ.few; omega, fun l hl => ?_⟩
    have := asc_few (hQ.asc l hl) (hQ.lt l hl)
    omega
theorem CR.same {n : Nat} {es : List (Int × Int)} {ls lo : List (List Int)} {er er' : Int} (hv : valid n es) (h : CR n es ls er)
    (h' : (triang (readT es) n = false ∧ lo = [] ∧ er' = 11) ∨ (triang (readT es) n = true ∧ er' = 0 ∧ lo.Perm ((keptI (maxTo (readT es) n n).2 (maxTo (readT es) n n).2.length).map fun i => (maxTo (readT es) n n).2.getD i []) ∧ sortedL lo)) : lo = ls ∧ er' = er := by
  have hi : triang (readT es) n = true ↔ isChordal (readAll es) n = true := (triang_iff (valid_nice hv)).trans (isChordal_chord hv).symm
  rcases h with ⟨hc, rfl, rfl⟩ | ⟨hc, rfl, hp, hs⟩
  · rcases h' with ⟨_, rfl, rfl⟩ | ⟨ht, _⟩
    · exact ⟨rfl, rfl⟩
    · rw [hi.1 ht] at hc; cases hc
  · rcases h' with ⟨ht, _⟩ | ⟨_, rfl, hp', hs'⟩
    · rw [hi.2 hc] at ht; cases ht
    · exact ⟨max_same hv hc hp' hs' hp hs, rfl⟩
def RetLib (n : Nat) (es : List (Int × Int)) (w : World) (e : Ending) (w' : World) : Prop :=
  ∃ ls V d er, e = .returned (.tuple #[.slice V (List.length ls) d, .int .i64 er]) ∧ Lists w' V ls ∧ CR n es ls er ∧ Below w.heap.size w w'
theorem lclq_any (n : Nat) (E : Option Addr) (c : Nat) (es : List (Int × Int)) (w : World) (hE : EdgesAt w E es) (hl : es.length ≤ 1000000) (hv : valid n es) (h12 : n ≤ 12) (hT : Tab w) :
    Calls Tryd.prog 18 #[.agg #[.int .i64 n, .slice E es.length c]] w (RetLib n es w) := by
  cases hc : isChordal (readAll es) n
  · refine (cliques_state n E c es w hE hl hv hT hc).mono ?_
    rintro e w' ⟨rfl, hb⟩
    exact ⟨[], none, 0, 11, rfl, ⟨fun _ => (none, 0), Sl.nil _ _ _, fun i hi2 => by simp at hi2⟩, .inl ⟨hc, rfl, rfl⟩, hb⟩
  · refine (cliques_ok n E c es w hE hl hv hT hc h12).mono ?_
    rintro e w' ⟨V, d, ls, rfl, h2, h3, h4, h5⟩
    exact ⟨ls, V, d, 0, rfl, h2, .inr ⟨hc, rfl, h3, h4⟩, h5⟩
theorem law_cliques (n : Int) (E : Option Addr) (es : List (Int × Int)) (c : Nat) (b : Bool) (w : World) (hE : EdgesAt w E es) (hT : Tab w) :
    Calls Tryd.prog 4 #[.int .i64 n, .slice E es.length c, .bool b] w fun e w' => e = .returned (.bool true) ∧ Below w.heap.size w w' := by
  by_cases hl : es.length ≤ 40
  · have HMD := Lib.hid (made_any n E c es w hE hl)
    clear hE
    cases b
    · go_enter Tryd.func4, Tryd.ntmps4
      go_wp2_with (first
        | (go_at_call 16; refine HMD.out.mono ?_; rintro e w1 ⟨m, fs, F, d, hm8, hfv, hfl, rfl, hF, hb1⟩
           have HFV := Lib.hid hfv; clear hfv
           have hB1 := Blk.new w1 25 #[.int .i64 m, .slice F fs.length d]
           have hF1 := hF.keep ((Below.refl _ _).alloc (Nat.le_refl _) (.cells #[.int .i64 m, .slice F fs.length d] 25))
           have hbw1 := hb1.alloc hb1.size (.cells #[.int .i64 m, .slice F fs.length d] 25))
        | (go_at_call 18; refine (lclq_any m F d fs _ hF1 (by omega) HFV.out (by omega) (hT.below hbw1 hT.1)).mono ?_; rintro e w2 ⟨ls, V, dv, er, rfl, hV, hcr, hb2⟩
           have HCR := Lib.hid hcr; clear hcr
           have hB2 := hB1.keep hb2 hB1.lt
           have c0 := hB2.cell 0
           have c1 := hB2.cell 1
           simp at c0 c1
           have hbw2 := below_all hbw1 hb2)
        | (go_at_call 19; refine (rclq_any m F d fs _ (hF1.keep hb2) (by omega) HFV.out).mono ?_; rintro e w3 ⟨lo, V', dv', er', rfl, hV', hrr, hb3⟩
           obtain ⟨rfl, rfl⟩ := HCR.out.same HFV.out hrr
           clear hrr
           have hfew := HCR.out.few HFV.out
           have hbw3 := below_all hbw2 hb3
           have hVk := hV.keep hb3
           have hee : (er' == er') = true := by simp)
        | (go_at_call 20; refine (lists_any V V' lo lo dv dv' w3 hVk hV' (by omega) (fun l hl => by have := hfew.2 l hl; omega)).mono ?_; rintro e w4 ⟨rfl, hd4⟩
           have hbw4 := below_all hbw3 hd4.below
           rw [show decide (lo = lo) = true from by simp])
        | (go_at_call 12; refine (awake_any _ (hT.below hbw4 hT.1)).mono ?_; rintro e w5 ⟨rfl, hb5⟩))
      go_ret
      exact ⟨rfl, below_all hbw4 hb5⟩
    · go_enter Tryd.func4, Tryd.ntmps4
      go_wp2_with (first
        | (go_at_call 16; refine HMD.out.mono ?_; rintro e w1 ⟨m, fs, F, d, hm8, hfv, hfl, rfl, hF, hb1⟩
           have HFV := Lib.hid hfv; clear hfv
           have hB1 := Blk.new w1 25 #[.int .i64 m, .slice F fs.length d]
           have hF1 := hF.keep ((Below.refl _ _).alloc (Nat.le_refl _) (.cells #[.int .i64 m, .slice F fs.length d] 25))
           have hbw1 := hb1.alloc hb1.size (.cells #[.int .i64 m, .slice F fs.length d] 25)
           have hw1 := hb1.size)
        | (go_at_call 17; refine (rext_any m F d fs _ hF1 (by omega) HFV.out).mono ?_; rintro e wx ⟨xs, X, dx, hxs, rfl, hX, hbx⟩
           have HXV : Hid (valid m xs) := Lib.hid (by rw [hxs]; exact fillEs_valid (by omega))
           have hxl : xs.length ≤ 4096 := by rw [hxs]; exact fillEs_len (by omega)
           clear hxs HFV hF
           have hBx := hB1.keep hbx hB1.lt
           have x0 := hBx.cell 0
           have x1 := hBx.cell 1
           have f0 := hBx.frozen 0
           have f1 := hBx.frozen 1
           simp at x0 x1
           have hbwx := below_all hbw1 hbx
           have hB1' : Blk ((wx.setCell ⟨w1.heap.size, 0, none⟩ (.int .i64 m)).setCell ⟨w1.heap.size, 1, none⟩ (.slice X xs.length dx)) w1.heap.size 25 #[.int .i64 m, .slice X xs.length dx] := blk_two hBx
           have hbw' : Below w.heap.size w ((wx.setCell ⟨w1.heap.size, 0, none⟩ (.int .i64 m)).setCell ⟨w1.heap.size, 1, none⟩ (.slice X xs.length dx)) := (hbwx.setCell hw1 _).setCell hw1 _
           have hX' : EdgesAt ((wx.setCell ⟨w1.heap.size, 0, none⟩ (.int .i64 m)).setCell ⟨w1.heap.size, 1, none⟩ (.slice X xs.length dx)) X xs := Sl.own (ownsRow_setCell_below (ownsRow_setCell_below hX (by simp) _) (by simp) _)
           clear hB1 hX hbwx hbx hBx hbw1 hb1 hF1)
        | (go_at_call 18; refine (lclq_any m X dx xs _ hX' (by omega) HXV.out (by omega) (hT.below hbw' hT.1)).mono ?_; rintro e w2 ⟨ls, V, dv, er, rfl, hV, hcr, hb2⟩
           have HCR := Lib.hid hcr; clear hcr
           have hB2 := hB1'.keep hb2 hB1'.lt
           have c0 := hB2.cell 0
           have c1 := hB2.cell 1
           simp at c0 c1
           have hbw2 := below_all hbw' hb2)
        | (go_at_call 19; refine (rclq_any m X dx xs _ (hX'.keep hb2) (by omega) HXV.out).mono ?_; rintro e w3 ⟨lo, V', dv', er', rfl, hV', hrr, hb3⟩
           obtain ⟨rfl, rfl⟩ := HCR.out.same HXV.out hrr
           clear hrr
           have hfew := HCR.out.few HXV.out
           have hbw3 := below_all hbw2 hb3
           have hVk := hV.keep hb3
           have hee : (er' == er') = true := by simp)
        | (go_at_call 20; refine (lists_any V V' lo lo dv dv' w3 hVk hV' (by omega) (fun l hl => by have := hfew.2 l hl; omega)).mono ?_; rintro e w4 ⟨rfl, hd4⟩
           have hbw4 := below_all hbw3 hd4.below
           rw [show decide (lo = lo) = true from by simp])
        | (go_at_call 12; refine (awake_any _ (hT.below hbw4 hT.1)).mono ?_; rintro e w5 ⟨rfl, hb5⟩))
      go_ret
      exact ⟨rfl, below_all hbw4 hb5⟩
  · have HMD := Lib.hid (made_long n E c es w (by omega))
    have hb : decide ((40 : Int) < (es.length : Int)) = true := by simp; omega
    clear hE
    go_enter Tryd.func4, Tryd.ntmps4
    go_wp2_with (first
      | (go_at_call 16; refine HMD.out.mono ?_; rintro e w1 ⟨rfl, hb1⟩)
      | (go_at_call 12; refine (awake_any _ (hT.below (hb1.alloc hb1.size _) hT.1)).mono ?_; rintro e w4 ⟨rfl, hb4⟩))
    go_ret
    exact ⟨rfl, below_all (hb1.alloc hb1.size _) hb4⟩
end Go.Proofs.Tg
end
