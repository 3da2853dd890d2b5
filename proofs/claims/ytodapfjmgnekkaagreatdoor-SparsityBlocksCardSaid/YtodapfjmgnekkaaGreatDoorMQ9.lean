/- Parts of the proof: GXN, GXL, GChordal, GPD. -/
import Derived.Laws.CopyOwn
import Derived.StillTailTactics
import Derived.Test.YtodapfjmgnekkaaGreatDoorMQ5
import Derived.Test.YtodapfjmgnekkaaGreatDoorMQ8
section
/- The reference's Fill. -/
namespace Go.Gr
def cntR (t : Nat → Nat → Bool) (gone : Nat → Bool) (i k : Nat) : Nat := ((List.range k).filter fun j => t i j && !gone j).length
theorem cntR_succ (t : Nat → Nat → Bool) (gone : Nat → Bool) (i k : Nat) : cntR t gone i (k + 1) = cntR t gone i k + if (t i k && !gone k) = true then 1 else 0 := by
  unfold cntR
  rw [List.range_succ, List.filter_append, List.length_append]
  cases h : (t i k && !gone k) <;> simp [h]
theorem cntR_le (t : Nat → Nat → Bool) (gone : Nat → Bool) (i k : Nat) : cntR t gone i k ≤ k := by
  unfold cntR
  exact Nat.le_trans (List.length_filter_le _ _) (by simp)
def minStepR (t : Nat → Nat → Bool) (n : Nat) (gone : Nat → Bool) (bm : Int × Int) (i : Nat) : Int × Int := if gone i = false ∧ ((cntR t gone i n : Nat) : Int) < bm.2 then ((i : Int), ((cntR t gone i n : Nat) : Int)) else bm
def minR (t : Nat → Nat → Bool) (n : Nat) (gone : Nat → Bool) (k : Nat) : Int × Int := (List.range k).foldl (minStepR t n gone) (-1, (n : Int) + 1)
theorem minR_succ (t : Nat → Nat → Bool) (n : Nat) (gone : Nat → Bool) (k : Nat) : minR t n gone (k + 1) = minStepR t n gone (minR t n gone k) k := by simp [minR, List.range_succ]
/-- What the choice comes to: the first of those with the fewest. -/
theorem minR_spec (t : Nat → Nat → Bool) (n : Nat) (gone : Nat → Bool) : ∀ k, (minR t n gone k = (-1, (n : Int) + 1) ∧ ∀ j, j < k → gone j = true) ∨
    ∃ i, i < k ∧ gone i = false ∧ minR t n gone k = ((i : Int), ((cntR t gone i n : Nat) : Int)) ∧ (∀ j, j < k → gone j = false → cntR t gone i n ≤ cntR t gone j n) ∧ (∀ j, j < i → gone j = false → cntR t gone i n < cntR t gone j n)
  | 0 => .inl ⟨rfl, fun j h => by omega⟩
  | k + 1 => by
    rw [minR_succ]
    rcases minR_spec t n gone k with ⟨h1, h2⟩ | ⟨i, hi, hg, he, hm, hf⟩
    · rw [h1]
      cases hk : gone k
      · right
        refine ⟨k, by omega, hk, ?_, fun j hj hgj => ?_, fun j hj hgj => ?_⟩
        · unfold minStepR
          rw [if_pos ⟨hk, by have := cntR_le t gone k n; simp; omega⟩]
        · by_cases e : j = k
          · rw [e]; exact Nat.le_refl _
          · rw [h2 j (by omega)] at hgj; cases hgj
        · rw [h2 j hj] at hgj; cases hgj
      · left
        refine ⟨by unfold minStepR; rw [if_neg (by rw [hk]; simp)], fun j hj => ?_⟩
        by_cases e : j = k
        · rw [e]; exact hk
        · exact h2 j (by omega)
    · right
      rw [he]
      by_cases hc : gone k = false ∧ cntR t gone k n < cntR t gone i n
      · refine ⟨k, by omega, hc.1, ?_, fun j hj hgj => ?_, fun j hj hgj => ?_⟩
        · unfold minStepR; rw [if_pos ⟨hc.1, by simp; omega⟩]
        · by_cases e : j = k
          · rw [e]; exact Nat.le_refl _
          · have := hm j (by omega) hgj; omega
        · have := hm j hj hgj; omega
      · refine ⟨i, by omega, hg, ?_, fun j hj hgj => ?_, hf⟩
        · unfold minStepR; rw [if_neg (fun h => hc ⟨h.1, by have := h.2; simp at this; omega⟩)]
        · by_cases e : j = k
          · subst e
            by_cases hlt : cntR t gone j n < cntR t gone i n
            · exact absurd ⟨hgj, hlt⟩ hc
            · omega
          · exact hm j (by omega) hgj
def stepF (gone : Nat → Bool) (best a : Nat) (t : Nat → Nat → Bool) (b : Nat) : Nat → Nat → Bool := if (!gone a && !gone b && t best a && t best b) = true then joinT t a b else t
def rowF (gone : Nat → Bool) (best a : Nat) (t : Nat → Nat → Bool) (k : Nat) : Nat → Nat → Bool := (List.range k).foldl (stepF gone best a) t
theorem rowF_succ (gone : Nat → Bool) (best a : Nat) (t : Nat → Nat → Bool) (k : Nat) : rowF gone best a t (k + 1) = stepF gone best a (rowF gone best a t k) k := by simp [rowF, List.range_succ]
def allF (gone : Nat → Bool) (best : Nat) (t : Nat → Nat → Bool) (k : Nat) : Nat → Nat → Bool := (List.range k).foldl (fun t a => rowF gone best a t a) t
theorem allF_succ (gone : Nat → Bool) (best : Nat) (t : Nat → Nat → Bool) (k : Nat) : allF gone best t (k + 1) = rowF gone best k (allF gone best t k) k := by simp [allF, List.range_succ]
/-- The table, and what is gone, after r steps. -/
def fillTo (t : Nat → Nat → Bool) (n : Nat) : Nat → (Nat → Nat → Bool) × (Nat → Bool)
  | 0 => (t, fun _ => false)
  | r + 1 => (allF (fillTo t n r).2 (minR (fillTo t n r).1 n (fillTo t n r).2 n).1.toNat (fillTo t n r).1 n, updF (fillTo t n r).2 (minR (fillTo t n r).1 n (fillTo t n r).2 n).1.toNat true)
theorem fill_left {t : Nat → Nat → Bool} {n : Nat} : ∀ r, r ≤ n → ∃ l : List Nat, l.length = r ∧ ∀ v, (fillTo t n r).2 v = true → v ∈ l
  | 0, _ => ⟨[], rfl, fun v h => by cases h⟩
  | r + 1, hr => by
    obtain ⟨l, h1, h2⟩ := fill_left (t := t) (n := n) r (by omega)
    refine ⟨(minR (fillTo t n r).1 n (fillTo t n r).2 n).1.toNat :: l, by simp [h1], fun v hv => ?_⟩
    have hv : updF (fillTo t n r).2 (minR (fillTo t n r).1 n (fillTo t n r).2 n).1.toNat true v = true := hv
    unfold updF at hv
    by_cases e : v = (minR (fillTo t n r).1 n (fillTo t n r).2 n).1.toNat
    · simp [e]
    · rw [if_neg e] at hv
      simp [h2 v hv]
theorem fill_best {t : Nat → Nat → Bool} {n r : Nat} (hr : r < n) : ∃ i c : Nat, i < n ∧ minR (fillTo t n r).1 n (fillTo t n r).2 n = ((i : Int), (c : Int)) := by
  rcases minR_spec (fillTo t n r).1 n (fillTo t n r).2 n with ⟨_, h2⟩ | ⟨i, hi, _, he, _⟩
  · exfalso
    obtain ⟨l, h3, h4⟩ := fill_left (t := t) (n := n) r (by omega)
    have := cover_le n l (fun v hv => h4 v (h2 v hv))
    omega
  · exact ⟨i, _, hi, he⟩
end Go.Gr
namespace Go.Proofs.Tg.Gx
open Go.RowKit Go.Gr
set_option maxHeartbeats 4000000
set_option maxRecDepth 100000
theorem TableAt.far {w : World} {g n : Nat} {t : Nat → Nat → Bool} (h : TableAt w g n t) {p : Addr} (h0 : p.block ≠ g) (h1 : ∀ i, i < n → p.block ≠ g + 1 + i) (u : Value) : TableAt (w.setCell p u) g n t :=
  ⟨h.head.far (fun e => h0 e.symm) u, fun i hi => (h.row i hi).far (fun e => h1 i hi e.symm) u⟩
theorem TableAt.setRow {w : World} {g n k : Nat} {t : Nat → Nat → Bool} (h : TableAt w g n t) (hk : k < n) (f : Nat → Bool) : TableAt (w.setRow (g + 1 + k) (farr n fun j => .bool (f j))) g n (fun i j => if i = k then f j else t i j) := by
  refine ⟨blk_setRow_far h.head (by omega) _, fun i hi => ?_⟩
  by_cases e : i = k
  · subst e
    have := blk_setRow (h.row i hi) (farr n fun j => .bool (f j))
    simpa using this
  · have := blk_setRow_far (h.row i hi) (g' := g + 1 + k) (by omega) (farr n fun j => .bool (f j))
    simpa [e] using this
theorem bool_size : (Tryz.prog.info? 4).map (·.size) = some 1 := by kernel_rfl
theorem rfill_any (g n : Nat) (t : Nat → Nat → Bool) (w : World) (hT : TableAt w g n t) (hn : n ≤ 64) :
    Calls Tryz.prog 64 #[.slice (some ⟨g, 0, none⟩) n n] w (RetTable n (fillTo t n n).1 w) := by
  have hgl0 : g < w.heap.size := hT.head.lt
  go_enter Tryz.func64, Tryz.ntmps64
  go_wp2_with (go_at_call 59; refine (blank_any n _ (by omega)).mono ?_; rintro e w1 ⟨rfl, hTb, hb1⟩)
  generalize hGd : w.heap.size = G at hTb ⊢
  have hGw : w.heap.size ≤ G := by omega
  have hGw2 : G ≤ w.heap.size := by omega
  have HGD := Lib.hid hGd
  clear hGd
  go_loopw [4] (fun x wr => ∃ k : Nat, x = .int .i64 k ∧ k ≤ n ∧ TableAt wr G n (fun i j => decide (i < k) && t i j) ∧ Below w.heap.size w wr) (fun x _ => n - (intOf x).toNat)
  case atStart =>
    refine ⟨0, rfl, Nat.zero_le _, ?_, hb1⟩
    have e : (fun i j => decide (i < 0) && t i j) = fun _ _ => false := by funext i j; simp
    rw [e]; exact hTb
  case round =>
    clear hTb hb1
    obtain ⟨k, rfl, hk, hO, hb⟩ := hrel
    have hTr := hT.keep hb (Nat.le_refl _)
    by_cases hkn : k < n
    · have hkb : decide ((k : Int) < (n : Int)) = true := by simp; omega
      have c1 := (hO.head.cell k).trans (farr_at n _ hkn)
      have c2 := (hTr.head.cell k).trans (farr_at n _ hkn)
      unfold rowV at c1 c2
      have k0 : (0 : Int) ≤ (k : Int) := by omega
      have k1 : (k : Int) < (n : Int) := by omega
      have HO := Lib.hid hO
      have HTR := Lib.hid hTr
      clear hO hTr
      have hcopy : (((farr n fun j => Value.bool (decide (k < k) && t k j)).toList.take 0 ++ (((List.range n).map fun j => Value.bool (t k j)) ++ (farr n fun j => Value.bool (decide (k < k) && t k j)).toList.drop (0 + ((List.range n).map fun j => Value.bool (t k j)).length))).toArray) = farr n fun j => .bool (t k j) := by
        simp [farr]
      have HCP := Lib.hid hcopy
      clear hcopy
      go_wp2
      go_still_tail 8, (by kernel_rfl)
      change wpList _ _ _ _ _ wr.drew
      refine wpList_copy_own rfl (.tmp 26) (.tmp 30) 112 112 rfl 4 Tryz.underlying112 bool_size (G + 1 + k) 0 n n ⟨g + 1 + k, 0, none⟩ n n rfl rfl (farr n fun j => .bool (decide (k < k) && t k j)) 4 (HO.out.row k hkn) ((List.range n).map fun j => .bool (t k j)) (by simp) ?c1 (by simp [farr]) (by simp [Value.oneCell']) ?_
      case c1 =>
        intro j v hv
        have hj : j < n := by
          have := (List.getElem?_eq_some_iff.1 hv).1
          simpa using this
        rw [add_lit, Nat.zero_add]
        have := ((HTR.out.row k hkn).cell j).trans (farr_at n _ hj)
        simp [hj] at hv
        rw [← hv]
        exact this
      rw [HCP.out]
      have hO2 := TableAt.setRow (HO.out.drew) hkn (fun j => t k j)
      have hO3 : TableAt (wr.drew.setRow (G + 1 + k) (farr n fun j => .bool (t k j))) G n (fun i j => decide (i < k + 1) && t i j) := by
        have e : (fun i j => if i = k then t k j else decide (i < k) && t i j) = fun i j => decide (i < k + 1) && t i j := by
          funext i j
          by_cases h : i = k
          · simp [h]
          · rw [if_neg h]
            have : decide (i < k) = decide (i < k + 1) := by rw [Bool.eq_iff_iff]; simp; omega
            rw [this]
        rw [← e]; exact hO2
      have hb3 : Below w.heap.size w (wr.drew.setRow (G + 1 + k) (farr n fun j => .bool (t k j))) := below_setRow hb.drew (by omega) _
      clear hO2
      generalize wr.drew.setRow (G + 1 + k) (farr n fun j => .bool (t k j)) = W2 at hO3 hb3 ⊢
      go_wp2
      go_roundw
      case rel => exact ⟨k + 1, by go_num, by omega, hO3, hb3⟩
      case measure => simp [intOf]; omega
    · obtain rfl : k = n := by omega
      have hkb : decide ((k : Int) < (k : Int)) = false := by simp
      have hO1 : TableAt wr G k (fillTo t k 0).1 := by
        refine ⟨hO.head, fun i hi => ?_⟩
        have := hO.row i hi
        rw [show (farr k fun j => Value.bool (decide (i < k) && t i j)) = farr k fun j => Value.bool ((fillTo t k 0).1 i j) from farr_congr (fun j _ => by simp [hi, fillTo])] at this
        exact this
      have m1 := fun W => make_bools k (by omega) W
      have hGl : ∀ i, i < k → G + 1 + i < wr.heap.size := fun i hi => (hO.row i hi).lt
      have hGl0 : G < wr.heap.size := hO.head.lt
      clear hO hkn hTr
      go_wp2
      clear m1
      have hB0 := Blk.new wr 4 (farr k fun _ => .bool false)
      have hO2 := hO1.keep ((Below.refl wr.heap.size wr).alloc (Nat.le_refl _) (.cells (farr k fun _ => .bool false) 4)) (Nat.le_refl _)
      have hb2 : Below w.heap.size w (wr.alloc (.cells (farr k fun _ => .bool false) 4)) := hb.alloc hb.size _
      have hwr := hb.size
      generalize wr.alloc (.cells (farr k fun _ => .bool false) 4) = W2 at hB0 hO2 hb2 ⊢
      generalize wr.heap.size = Gg at hB0 hGl hGl0 hwr ⊢
      have HGL := Lib.hid hGl
      clear hGl hb hO1
      go_loopw [6] (fun x wr => ∃ l : Nat, x = .int .i64 l ∧ l ≤ k ∧ TableAt wr G k (fillTo t k (k - l)).1 ∧ Blk wr Gg 4 (farr k fun v => .bool ((fillTo t k (k - l)).2 v)) ∧ Below w.heap.size w wr) (fun x _ => (intOf x).toNat)
      case atStart => exact ⟨k, rfl, Nat.le_refl _, by rw [Nat.sub_self]; exact hO2, by rw [Nat.sub_self]; exact hB0, hb2⟩
      case round =>
        clear hB0 hO2 hb2
        obtain ⟨l, rfl, hl, hO, hG, hb⟩ := hrel
        by_cases hl0 : 0 < l
        · have hlb : decide ((0 : Int) < (l : Int)) = true := by simp; omega
          have hlb' : decide (0 < l) = true := by simp; omega
          obtain ⟨bi, bc, hbi, hbest⟩ := fill_best (t := t) (n := k) (r := k - l) (by omega)
          have HN : Hid (fillTo t k (k - (l - 1)) = (allF (fillTo t k (k - l)).2 bi (fillTo t k (k - l)).1 k, updF (fillTo t k (k - l)).2 bi true)) := Lib.hid (by
            rw [show k - (l - 1) = k - l + 1 from by omega]
            show (allF _ (minR (fillTo t k (k - l)).1 k (fillTo t k (k - l)).2 k).1.toNat _ k, updF _ (minR (fillTo t k (k - l)).1 k (fillTo t k (k - l)).2 k).1.toNat true) = _
            rw [hbest]; rfl)
          have HBE := Lib.hid hbest
          clear hbest
          generalize (fillTo t k (k - l)).1 = u at HN HBE hO
          generalize (fillTo t k (k - l)).2 = gone at HN HBE hG
          go_wp2
          go_loopw [9, 7, 8] (fun x b m wr => ∃ i : Nat, x = .int .i64 i ∧ i ≤ k ∧ b = .int .i64 (minR u k gone i).1 ∧ m = .int .i64 (minR u k gone i).2 ∧ TableAt wr G k u ∧ Blk wr Gg 4 (farr k fun v => .bool (gone v)) ∧ Below w.heap.size w wr) (fun x _ _ _ => k - (intOf x).toNat)
          case atStart => exact ⟨0, rfl, Nat.zero_le _, rfl, rfl, hO, hG, hb⟩
          case round =>
            clear hO hG hb
            obtain ⟨i, rfl, hi, rfl, rfl, hO, hG, hb⟩ := hrel
            by_cases hik : i < k
            · have hib : decide ((i : Int) < (k : Int)) = true := by simp; omega
              have HMS := Lib.hid (minR_succ u k gone i)
              generalize minR u k gone i = bm at HMS ⊢
              obtain ⟨b1, b2⟩ := bm
              unfold minStepR at HMS
              simp only at HMS ⊢
              have i0 : (0 : Int) ≤ (i : Int) := by omega
              have i1 : (i : Int) < (k : Int) := by omega
              have ci := (hO.head.cell i).trans (farr_at k _ hik)
              unfold rowV at ci
              have cgi := (hG.cell i).trans (farr_at k _ hik)
              go_wp2
              go_loop [11, 10] (fun x s => ∃ q c : Nat, x = .int .i64 q ∧ q ≤ k ∧ s = .int .i64 c ∧ c ≤ q ∧ Hid (c = cntR u gone i q)) (fun x _ => k - (intOf x).toNat)
              case atStart => exact ⟨0, 0, rfl, Nat.zero_le _, rfl, Nat.le_refl _, Lib.hid (by simp [cntR])⟩
              case round =>
                obtain ⟨q, c, rfl, hq, rfl, hcq, HC⟩ := hrel
                by_cases hqk : q < k
                · have hqb : decide ((q : Int) < (k : Int)) = true := by simp; omega
                  have ciq := ((hO.row i hik).cell q).trans (farr_at k _ hqk)
                  have cgq := (hG.cell q).trans (farr_at k _ hqk)
                  have HS := Lib.hid (cntR_succ u gone i q)
                  have q0 : (0 : Int) ≤ (q : Int) := by omega
                  have q1 : (q : Int) < (k : Int) := by omega
                  generalize u i q = uq at ciq HS
                  generalize gone q = gq at cgq HS
                  cases uq
                  · have HC2 : Hid (c = cntR u gone i (q + 1)) := Lib.hid (by rw [HS.out, HC.out]; simp)
                    clear HC HS
                    go_wp2
                    go_round
                    case rel => exact ⟨q + 1, c, by go_num, by omega, rfl, by omega, HC2⟩
                    case measure => simp [intOf]; omega
                  · cases gq
                    · have HC2 : Hid (c + 1 = cntR u gone i (q + 1)) := Lib.hid (by rw [HS.out, HC.out]; simp)
                      clear HC HS
                      go_wp2
                      go_round
                      case rel => exact ⟨q + 1, c + 1, by go_num, by omega, by go_num, by omega, HC2⟩
                      case measure => simp [intOf]; omega
                    · have HC2 : Hid (c = cntR u gone i (q + 1)) := Lib.hid (by rw [HS.out, HC.out]; simp)
                      clear HC HS
                      go_wp2
                      go_round
                      case rel => exact ⟨q + 1, c, by go_num, by omega, rfl, by omega, HC2⟩
                      case measure => simp [intOf]; omega
                · obtain rfl : q = k := by omega
                  have hqb : decide ((q : Int) < (q : Int)) = false := by simp
                  rw [← HC.out] at HMS
                  clear HC
                  generalize gone i = gi at cgi HMS
                  cases gi
                  · by_cases hlt : (c : Int) < b2
                    · have d1 : decide ((c : Int) < b2) = true := by simpa using hlt
                      rw [if_pos ⟨rfl, hlt⟩] at HMS
                      go_wp2
                      go_roundw
                      case rel => exact ⟨i + 1, by go_num, by omega, by rw [HMS.out], by rw [HMS.out], hO, hG, hb⟩
                      case measure => simp [intOf]; omega
                    · have d1 : decide ((c : Int) < b2) = false := by simpa using hlt
                      rw [if_neg (fun h => hlt h.2)] at HMS
                      go_wp2
                      go_roundw
                      case rel => exact ⟨i + 1, by go_num, by omega, by rw [HMS.out], by rw [HMS.out], hO, hG, hb⟩
                      case measure => simp [intOf]; omega
                  · rw [if_neg (fun h => by cases h.1)] at HMS
                    go_wp2
                    go_roundw
                    case rel => exact ⟨i + 1, by go_num, by omega, by rw [HMS.out], by rw [HMS.out], hO, hG, hb⟩
                    case measure => simp [intOf]; omega
            · obtain rfl : i = k := by omega
              have hib : decide ((i : Int) < (i : Int)) = false := by simp
              rw [HBE.out]
              simp only
              clear HBE
              have b0 : (0 : Int) ≤ (bi : Int) := by omega
              have b1 : (bi : Int) < (i : Int) := by omega
              go_wp2
              go_loopw [12] (fun x wr => ∃ a : Nat, x = .int .i64 a ∧ a ≤ i ∧ TableAt wr G i (allF gone bi u a) ∧ Blk wr Gg 4 (farr i fun v => .bool (gone v)) ∧ Below w.heap.size w wr) (fun x _ => i - (intOf x).toNat)
              case atStart => exact ⟨0, rfl, Nat.zero_le _, hO, hG, hb⟩
              case round =>
                clear hO hG hb
                obtain ⟨a, rfl, ha, hO, hG, hb⟩ := hrel
                by_cases hai : a < i
                · have hab : decide ((a : Int) < (i : Int)) = true := by simp; omega
                  have a0 : (0 : Int) ≤ (a : Int) := by omega
                  have a1 : (a : Int) < (i : Int) := by omega
                  go_wp2
                  go_loopw [13] (fun x wr => ∃ b : Nat, x = .int .i64 b ∧ b ≤ a ∧ TableAt wr G i (rowF gone bi a (allF gone bi u a) b) ∧ Blk wr Gg 4 (farr i fun v => .bool (gone v)) ∧ Below w.heap.size w wr) (fun x _ => a - (intOf x).toNat)
                  case atStart => exact ⟨0, rfl, Nat.zero_le _, hO, hG, hb⟩
                  case round =>
                    clear hO hG hb
                    obtain ⟨b, rfl, hb', hO, hG, hb⟩ := hrel
                    by_cases hba : b < a
                    · have hbb : decide ((b : Int) < (a : Int)) = true := by simp; omega
                      have hbi2 : b < i := by omega
                      have c0 : (0 : Int) ≤ (b : Int) := by omega
                      have c1 : (b : Int) < (i : Int) := by omega
                      have HS := Lib.hid (rowF_succ gone bi a (allF gone bi u a) b)
                      generalize rowF gone bi a (allF gone bi u a) b = v at HS hO
                      unfold stepF at HS
                      have cga := (hG.cell a).trans (farr_at i _ hai)
                      have cgb := (hG.cell b).trans (farr_at i _ hbi2)
                      have cbi := (hO.head.cell bi).trans (farr_at i _ hbi)
                      unfold rowV at cbi
                      have cva := ((hO.row bi hbi).cell a).trans (farr_at i _ hai)
                      have cvb := ((hO.row bi hbi).cell b).trans (farr_at i _ hbi2)
                      have HGa : Hid (gone a = gone a) := Lib.hid rfl
                      obtain ⟨ga, hga⟩ : ∃ x, gone a = x := ⟨_, rfl⟩
                      obtain ⟨gb, hgb⟩ : ∃ x, gone b = x := ⟨_, rfl⟩
                      obtain ⟨va, hva⟩ : ∃ x, v bi a = x := ⟨_, rfl⟩
                      obtain ⟨vb, hvb⟩ : ∃ x, v bi b = x := ⟨_, rfl⟩
                      rw [hga] at cga HS
                      rw [hgb] at cgb HS
                      rw [hva] at cva HS
                      rw [hvb] at cvb HS
                      clear hga hgb hva hvb HGa
                      cases ga
                      · cases gb
                        · cases va
                          · have HK2 : Hid (TableAt wr G i (rowF gone bi a (allF gone bi u a) (b + 1))) := Lib.hid (by rw [HS.out]; exact hO)
                            clear HS
                            go_wp2
                            go_roundw
                            case rel => exact ⟨b + 1, by go_num, by omega, HK2.out, hG, hb⟩
                            case measure => simp [intOf]; omega
                          · cases vb
                            · have HK2 : Hid (TableAt wr G i (rowF gone bi a (allF gone bi u a) (b + 1))) := Lib.hid (by rw [HS.out]; exact hO)
                              clear HS
                              go_wp2
                              go_roundw
                              case rel => exact ⟨b + 1, by go_num, by omega, HK2.out, hG, hb⟩
                              case measure => simp [intOf]; omega
                            · have HK2 : Hid (rowF gone bi a (allF gone bi u a) (b + 1) = joinT v a b) := Lib.hid (by rw [HS.out]; rfl)
                              clear HS
                              have ca := (hO.head.cell a).trans (farr_at i _ hai)
                              have cb := (hO.head.cell b).trans (farr_at i _ hbi2)
                              unfold rowV at ca cb
                              have cab := ((hO.row a hai).cell b).trans (farr_at i _ hbi2)
                              have cba := ((hO.row b hbi2).cell a).trans (farr_at i _ hai)
                              have fab := (hO.row a hai).frozen b
                              have fba := (hO.row b hbi2).frozen a
                              have HT3 := Lib.hid ((hO.set (b := b) hai).set (b := a) hbi2)
                              have HGA := HGL.out a hai
                              have HGB := HGL.out b hbi2
                              generalize v a b = vab at cab
                              generalize v b a = vba at cba
                              clear hO
                              go_wp2
                              go_region
                              go_wp2
                              go_roundw
                              case rel =>
                                refine ⟨b + 1, by go_num, by omega, ?_, ?_, ?_⟩
                                · rw [HK2.out]; exact ⟨HT3.out.head, HT3.out.row⟩
                                · exact (hG.far (p := ⟨G + 1 + a, b, none⟩) (by simp; omega) (.bool true)).far (p := ⟨G + 1 + b, a, none⟩) (by simp; omega) (.bool true)
                                · exact below_drewN ((hb.setCell (p := ⟨G + 1 + a, b, none⟩) (by simp; omega) (.bool true)).setCell (p := ⟨G + 1 + b, a, none⟩) (by simp; omega) (.bool true)) _
                              case measure => simp [intOf]; omega
                        · have HK2 : Hid (TableAt wr G i (rowF gone bi a (allF gone bi u a) (b + 1))) := Lib.hid (by rw [HS.out]; exact hO)
                          clear HS
                          go_wp2
                          go_roundw
                          case rel => exact ⟨b + 1, by go_num, by omega, HK2.out, hG, hb⟩
                          case measure => simp [intOf]; omega
                      · have HK2 : Hid (TableAt wr G i (rowF gone bi a (allF gone bi u a) (b + 1))) := Lib.hid (by rw [HS.out]; exact hO)
                        clear HS
                        go_wp2
                        go_roundw
                        case rel => exact ⟨b + 1, by go_num, by omega, HK2.out, hG, hb⟩
                        case measure => simp [intOf]; omega
                    · obtain rfl : b = a := by omega
                      have hbb : decide ((b : Int) < (b : Int)) = false := by simp
                      have HK2 : Hid (TableAt wr G i (allF gone bi u (b + 1))) := Lib.hid (by rw [allF_succ]; exact hO)
                      go_wp2
                      go_roundw
                      case rel => exact ⟨b + 1, by go_num, by omega, HK2.out, hG, hb⟩
                      case measure => simp [intOf]; omega
                · obtain rfl : a = i := by omega
                  have hab : decide ((a : Int) < (a : Int)) = false := by simp
                  have cg := (hG.cell bi).trans (farr_at a _ hbi)
                  have fg := hG.frozen bi
                  have HO2 : Hid (TableAt (wr.setCell ⟨Gg, bi, none⟩ (.bool true)) G a (fillTo t a (a - (l - 1))).1) := Lib.hid (by
                    rw [HN.out]
                    exact hO.far (by simp; omega) (fun j hj => by have := HGL.out j hj; simp; omega) _)
                  have HG2 : Hid (Blk (wr.setCell ⟨Gg, bi, none⟩ (.bool true)) Gg 4 (farr a fun v => .bool ((fillTo t a (a - (l - 1))).2 v))) := Lib.hid (by
                    rw [HN.out]
                    have := hG.set (i := bi) (.bool true)
                    rw [farr_upd (fun v : Bool => Value.bool v) gone] at this
                    exact this)
                  have HB2 : Hid (Below w.heap.size w (wr.setCell ⟨Gg, bi, none⟩ (.bool true))) := Lib.hid (hb.setCell (by simp; omega) _)
                  go_wp2
                  go_roundw
                  case rel => exact ⟨l - 1, by go_num, by omega, HO2.out, HG2.out, HB2.out⟩
                  case measure => simp [intOf]; omega
        · obtain rfl : l = 0 := by omega
          have hlb : decide ((0 : Int) < ((0 : Nat) : Int)) = false := by simp
          go_wp2
          go_ret
          exact ⟨G, hGw, rfl, hO, hb⟩
end Go.Proofs.Tg.Gx
end
section
/- The reference's subset and Less. -/
namespace Go.Gr
theorem cmpL_drop {a b : List Int} {k : Nat} (ha : k < a.length) (hb : k < b.length) : cmpL (a.drop k) (b.drop k) = if a[k] < b[k] then -1 else if b[k] < a[k] then 1 else cmpL (a.drop (k + 1)) (b.drop (k + 1)) := by
  rw [List.drop_eq_getElem_cons ha, List.drop_eq_getElem_cons hb]
  rfl
theorem cmpL_short {a b : List Int} (h : a = [] ∨ b = []) : cmpL a b < 0 ↔ a.length < b.length := by
  cases a <;> cases b <;> simp_all [cmpL]
end Go.Gr
namespace Go.Proofs.Tg.Gx
open Go.RowKit Go.Gr
set_option maxHeartbeats 4000000
set_option maxRecDepth 100000
theorem rsub_any (A B : Option Addr) (a b : List Int) (c d : Nat) (bv : Bool) (w : World) (hA : Ints w A a) (hB : Ints w B b) (hal : a.length ≤ 1000) (hbl : b.length ≤ 1000) (hv : bv = true ↔ common a b = a.length) :
    Calls Tryz.prog 100 #[.slice A a.length c, .slice B b.length d] w fun e w' => e = .returned (.bool bv) ∧ ∃ n, w' = w.drewN n := by
  have HC := Lib.hid (common_any A B a b c d w hA hB hal hbl)
  clear hA hB
  by_cases h : common a b = a.length
  · obtain rfl : bv = true := hv.2 h
    have e1 : (((common a b : Nat) : Int) == (a.length : Int)) = true := beq_iff_eq.2 (by omega)
    clear hv h
    generalize common a b = z at HC e1
    go_enter Tryz.func100, Tryz.ntmps100
    go_wp2_with (go_at_call 121; refine HC.out.mono ?_; rintro e w1 ⟨rfl, hw1⟩; have HW := Lib.hid hw1; clear hw1)
    go_ret
    exact ⟨rfl, HW.out⟩
  · obtain rfl : bv = false := by
      cases bv
      · rfl
      · exact absurd (hv.1 rfl) h
    have e1 : (((common a b : Nat) : Int) == (a.length : Int)) = false := beq_eq_false_iff_ne.2 (by omega)
    clear hv h
    generalize common a b = z at HC e1
    go_enter Tryz.func100, Tryz.ntmps100
    go_wp2_with (go_at_call 121; refine HC.out.mono ?_; rintro e w1 ⟨rfl, hw1⟩; have HW := Lib.hid hw1; clear hw1)
    go_ret
    exact ⟨rfl, HW.out⟩
theorem rless_any (A B : Option Addr) (a b : List Int) (c d : Nat) (bv : Bool) (w : World) (hA : Ints w A a) (hB : Ints w B b) (hal : a.length ≤ 1000) (hbl : b.length ≤ 1000) (hv : bv = true ↔ cmpL a b < 0) :
    Calls Tryz.prog 101 #[.slice A a.length c, .slice B b.length d] w fun e w' => e = .returned (.bool bv) ∧ ∃ n, w' = w.drewN n := by
  have HV := Lib.hid hv
  clear hv
  go_enter Tryz.func101, Tryz.ntmps101
  go_wp2
  go_loopw [5] (fun i wr => ∃ k : Nat, i = .int .i64 k ∧ k ≤ a.length ∧ k ≤ b.length ∧ Hid (cmpL a b = cmpL (a.drop k) (b.drop k)) ∧ Below w.heap.size w wr ∧ Hid (∃ n, wr = w.drewN n)) (fun i _ => a.length - (intOf i).toNat)
  case atStart => exact ⟨0, rfl, Nat.zero_le _, Nat.zero_le _, Lib.hid rfl, Below.refl _ _, Lib.hid ⟨0, rfl⟩⟩
  case round =>
    obtain ⟨k, rfl, hka, hkb, HC, hb, HD⟩ := hrel
    by_cases h : k < a.length ∧ k < b.length
    · obtain ⟨h1, h2⟩ := h
      have q1 : decide ((k : Int) < (a.length : Int)) = true := by simp; omega
      have q2 : decide ((k : Int) < (b.length : Int)) = true := by simp; omega
      have HS := Lib.hid (cmpL_drop h1 h2)
      obtain ⟨ad, rfl, hc⟩ := Ints.at (hA.keep hb) h1
      obtain ⟨bd, rfl, hd⟩ := Ints.at (hB.keep hb) h2
      generalize a[k] = x at HS hc
      generalize b[k] = y at HS hd
      have k0 : (0 : Int) ≤ (k : Int) := by omega
      have k1 : (k : Int) < (a.length : Int) := by omega
      have k2 : (k : Int) < (b.length : Int) := by omega
      clear hA hB
      by_cases hxy : x = y
      · subst hxy
        have hne : (x != x) = false := by simp
        have HC2 : Hid (cmpL a b = cmpL (a.drop (k + 1)) (b.drop (k + 1))) := Lib.hid (by rw [HC.out, HS.out, if_neg (by omega), if_neg (by omega)])
        clear HC HS
        go_wp2
        go_quiet (fail)
        go_wp2
        go_roundw
        case rel => exact ⟨k + 1, by go_num, by omega, by omega, HC2, below_drewN hb _, drew_more HD _⟩
        case measure => simp [intOf]; omega
      · have hne : (x != y) = true := by simpa using hxy
        by_cases hlt : x < y
        · have q3 : decide (x < y) = true := by simpa using hlt
          obtain rfl : bv = true := HV.out.2 (by rw [HC.out, HS.out, if_pos hlt]; omega)
          clear HC HS HV hxy
          go_wp2
          go_quiet (fail)
          go_wp2
          go_quiet (fail)
          go_wp2
          go_ret
          exact ⟨rfl, (drew_more (drew_more HD _) _).out⟩
        · have q3 : decide (x < y) = false := by simpa using hlt
          obtain rfl : bv = false := by
            cases bv
            · rfl
            · have := HV.out.1 rfl
              rw [HC.out, HS.out, if_neg hlt, if_pos (by omega)] at this
              omega
          clear HC HS HV hxy
          go_wp2
          go_quiet (fail)
          go_wp2
          go_quiet (fail)
          go_wp2
          go_ret
          exact ⟨rfl, (drew_more (drew_more HD _) _).out⟩
    · have HE : Hid (bv = decide (a.length < b.length)) := Lib.hid (by
        rw [Bool.eq_iff_iff, HV.out, HC.out, cmpL_short (by
          by_cases hk : k = a.length
          · left; rw [hk]; simp
          · right; rw [show k = b.length by omega]; simp)]
        simp only [List.length_drop, decide_eq_true_eq]
        omega)
      have hcase : a.length ≤ k ∨ (k < a.length ∧ b.length ≤ k) := by omega
      obtain ⟨bl, hbl2⟩ : ∃ bl, decide (a.length < b.length) = bl := ⟨_, rfl⟩
      rw [hbl2] at HE
      have q3 : decide ((a.length : Int) < (b.length : Int)) = bl := by rw [← hbl2]; simp
      have HW := HE.out
      subst HW
      clear HV HC h hA hB
      rcases hcase with h1 | ⟨h1, h2⟩
      · have q1 : decide ((k : Int) < (a.length : Int)) = false := by simp; omega
        go_wp2
        go_ret
        exact ⟨rfl, HD.out⟩
      · have q1 : decide ((k : Int) < (a.length : Int)) = true := by simp; omega
        have q2 : decide ((k : Int) < (b.length : Int)) = false := by simp; omega
        go_wp2
        go_ret
        exact ⟨rfl, HD.out⟩
end Go.Proofs.Tg.Gx
end
section
/- Plain mathematics of chordal graphs: a graph with a perfect elimination order has the order of every maximum cardinality search as one. No program in sight. -/
namespace Go.Chordal

/-- A list of vertices, the first one eliminated first: the later neighbours of each vertex are pairwise adjacent. -/
def Peo (adj : Nat → Nat → Prop) : List Nat → Prop
  | [] => True
  | v :: post => (∀ a ∈ post, ∀ b ∈ post, adj v a → adj v b → a ≠ b → adj a b) ∧ Peo adj post

/-- A path p 0 .. p j without chords. -/
structure Path (adj : Nat → Nat → Prop) (p : Nat → Nat) (j : Nat) : Prop where
  inj : ∀ a b, a < b → b ≤ j → p a ≠ p b
  step : ∀ a, a < j → adj (p a) (p (a + 1))
  free : ∀ a b, a + 1 < b → b ≤ j → ¬ adj (p a) (p b)

theorem Path.rev {adj : Nat → Nat → Prop} (sym : ∀ a b, adj a b → adj b a) {p : Nat → Nat} {j : Nat} (h : Path adj p j) : Path adj (fun k => p (j - k)) j where
  inj a b hab hb := fun e => h.inj (j - b) (j - a) (by omega) (by omega) e.symm
  step a ha := by
    have := h.step (j - (a + 1)) (by omega)
    rw [show j - (a + 1) + 1 = j - a from by omega] at this
    exact sym _ _ this
  free a b hab hb := fun e => h.free (j - b) (j - a) (by omega) (by omega) (sym _ _ e)

theorem Path.take {adj : Nat → Nat → Prop} {p : Nat → Nat} {j i : Nat} (h : Path adj p j) (hi : i ≤ j) : Path adj p i where
  inj a b hab hb := h.inj a b hab (by omega)
  step a ha := h.step a (by omega)
  free a b hab hb := h.free a b hab (by omega)

/-- In a graph with a perfect elimination order a vertex that is adjacent to both ends of a path without chords is adjacent to one inside it. -/
theorem peo_inside {adj : Nat → Nat → Prop} (sym : ∀ a b, adj a b → adj b a) : ∀ (l : List Nat), Peo adj l → ∀ (p : Nat → Nat) (j z : Nat), 2 ≤ j → Path adj p j → (∀ k, k ≤ j → p k ∈ l) → z ∈ l → (∀ k, k ≤ j → z ≠ p k) →
    adj z (p 0) → adj z (p j) → ∃ k, 0 < k ∧ k < j ∧ adj z (p k)
  | [], _, p, j, z, _, _, hp, _, _, _, _ => by have := hp 0 (by omega); simp at this
  | v :: post, ⟨hv, hpost⟩, p, j, z, hj, hpath, hp, hz, hne, h0, hJ => by
    by_cases hvz : v = z
    · subst hvz
      have m0 : p 0 ∈ post := by
        rcases List.mem_cons.1 (hp 0 (by omega)) with e | e
        · exact absurd e.symm (hne 0 (by omega))
        · exact e
      have mJ : p j ∈ post := by
        rcases List.mem_cons.1 (hp j (by omega)) with e | e
        · exact absurd e.symm (hne j (by omega))
        · exact e
      exact absurd (hv _ m0 _ mJ h0 hJ (hpath.inj 0 j (by omega) (by omega))) (hpath.free 0 j (by omega) (by omega))
    · have mz : z ∈ post := by
        rcases List.mem_cons.1 hz with e | e
        · exact absurd e.symm hvz
        · exact e
      by_cases hin : ∃ i, i ≤ j ∧ p i = v
      · obtain ⟨i, hi, rfl⟩ := hin
        have mem : ∀ k, k ≤ j → k ≠ i → p k ∈ post := by
          intro k hk hki
          rcases List.mem_cons.1 (hp k hk) with e | e
          · rcases Nat.lt_or_gt_of_ne hki with h | h
            · exact absurd e (hpath.inj k i h hi)
            · exact absurd e.symm (hpath.inj i k h hk)
          · exact e
        by_cases hi0 : i = 0
        · subst hi0
          refine ⟨1, by omega, by omega, ?_⟩
          exact hv _ mz _ (mem 1 (by omega) (by omega)) (sym _ _ h0) (hpath.step 0 (by omega)) (hne 1 (by omega))
        · by_cases hij : i = j
          · subst hij
            refine ⟨i - 1, by omega, by omega, ?_⟩
            have hs := hpath.step (i - 1) (by omega)
            rw [show i - 1 + 1 = i from by omega] at hs
            exact hv _ mz _ (mem (i - 1) (by omega) (by omega)) (sym _ _ hJ) (sym _ _ hs) (hne (i - 1) (by omega))
          · have hs := hpath.step (i - 1) (by omega)
            rw [show i - 1 + 1 = i from by omega] at hs
            exact absurd (hv _ (mem (i - 1) (by omega) (by omega)) _ (mem (i + 1) (by omega) (by omega)) (sym _ _ hs) (hpath.step i (by omega)) (hpath.inj (i - 1) (i + 1) (by omega) (by omega)))
              (hpath.free (i - 1) (i + 1) (by omega) (by omega))
      · have mem : ∀ k, k ≤ j → p k ∈ post := by
          intro k hk
          rcases List.mem_cons.1 (hp k hk) with e | e
          · exact absurd ⟨k, hk, e⟩ hin
          · exact e
        exact peo_inside sym post hpost p j z hj hpath mem mz hne h0 hJ

/-- How many of o 0 .. o (y - 1) are adjacent to v. -/
def cnt (adj : Nat → Nat → Bool) (o : Nat → Nat) (y v : Nat) : Nat := ((List.range y).filter fun k => adj v (o k)).length

theorem filter_len_lt {α : Type} (l : List α) (p q : α → Bool) (hpq : ∀ x ∈ l, p x = true → q x = true) (x : α) (hx : x ∈ l) (h1 : q x = true) (h2 : p x = false) : (l.filter p).length < (l.filter q).length := by
  induction l with
  | nil => simp at hx
  | cons y l ih =>
    have hle : ∀ (l : List α), (∀ x ∈ l, p x = true → q x = true) → (l.filter p).length ≤ (l.filter q).length := by
      intro l
      induction l with
      | nil => simp
      | cons z l ih2 =>
        intro h
        have h3 := ih2 (fun x hx => h x (by simp [hx]))
        by_cases hpz : p z = true
        · have := h z (by simp) hpz
          simp [hpz, this]; omega
        · by_cases hqz : q z = true <;> simp [hpz, hqz] <;> omega
    rcases List.mem_cons.1 hx with e | e
    · subst e
      have := hle l (fun x hx => hpq x (by simp [hx]))
      simp [h1, h2]; omega
    · have h3 := ih (fun x hx => hpq x (by simp [hx])) e
      by_cases hpz : p y = true
      · have := hpq y (by simp) hpz
        simp [hpz, this]; omega
      · by_cases hqz : q y = true <;> simp [hpz, hqz] <;> omega

/-- If one has a neighbour among the first y that the other has not, and is not ahead in number, the other has one that it has not. -/
theorem cnt_other {adj : Nat → Nat → Bool} {o : Nat → Nat} {y u v x : Nat} (hle : cnt adj o y u ≤ cnt adj o y v) (hx : x < y) (hu : adj u (o x) = true) (hv : adj v (o x) = false) :
    ∃ z, z < y ∧ adj v (o z) = true ∧ adj u (o z) = false := by
  by_cases h : ∃ z, z < y ∧ adj v (o z) = true ∧ adj u (o z) = false
  · exact h
  · exfalso
    have : cnt adj o y v < cnt adj o y u := by
      unfold cnt
      refine filter_len_lt _ _ _ ?_ x (by simpa using hx) hu hv
      intro z hz hvz
      by_cases hc : adj u (o z) = true
      · exact hc
      · exact absurd ⟨z, by simpa using hz, hvz, by simpa using hc⟩ h
    omega

theorem least_true (P : Nat → Prop) [DecidablePred P] : ∀ (n : Nat), P n → ∃ i, i ≤ n ∧ P i ∧ ∀ k, k < i → ¬ P k
  | 0, h => ⟨0, by omega, h, by omega⟩
  | n + 1, h => by
    by_cases h2 : ∃ k, k ≤ n ∧ P k
    · obtain ⟨k, hk, pk⟩ := h2
      have : ∀ m, m ≤ n → P m → ∃ i, i ≤ m ∧ P i ∧ ∀ k, k < i → ¬ P k := fun m hm pm => by
        induction m using Nat.strongRecOn with
        | _ m ih =>
          by_cases h3 : ∃ q, q < m ∧ P q
          · obtain ⟨q, hq, pq⟩ := h3
            obtain ⟨i, hi, pi, hall⟩ := ih q hq (by omega) pq
            exact ⟨i, by omega, pi, hall⟩
          · exact ⟨m, by omega, pm, fun k hk pk => h3 ⟨k, hk, pk⟩⟩
      obtain ⟨i, hi, pi, hall⟩ := this k hk pk
      exact ⟨i, by omega, pi, hall⟩
    · exact ⟨n + 1, by omega, h, fun k hk pk => h2 ⟨k, by omega, pk⟩⟩

/-- o 0 .. o (n - 1) is an order in which each vertex has, among those that are left, the most neighbours ahead of it. -/
structure Mcs (adj : Nat → Nat → Bool) (o : Nat → Nat) (n : Nat) : Prop where
  inj : ∀ a b, a < b → b < n → o a ≠ o b
  most : ∀ y u, y ≤ u → u < n → cnt adj o y (o u) ≤ cnt adj o y (o y)

theorem mcs_no_path {adj : Nat → Nat → Bool} (sym : ∀ a b, adj a b = true → adj b a = true) {o : Nat → Nat} {n : Nat} (hm : Mcs adj o n) {l : List Nat} (hl : Peo (fun a b => adj a b = true) l)
    (hmem : ∀ k, k < n → o k ∈ l) : ∀ (m : Nat) (q : Nat → Nat) (j : Nat), 2 ≤ j → q 0 ≤ m → q j ≤ m → m < n → (∀ k, k ≤ j → q k < n) → (∀ k, 0 < k → k < j → q 0 < q k ∧ q j < q k) →
    Path (fun a b => adj a b = true) (fun k => o (q k)) j → False := by
  intro m
  induction m using Nat.strongRecOn with
  | _ m ih =>
    -- the path with its greater end last
    have main : ∀ (q : Nat → Nat) (j : Nat), 2 ≤ j → q 0 < q j → q j ≤ m → m < n → (∀ k, k ≤ j → q k < n) → (∀ k, 0 < k → k < j → q 0 < q k ∧ q j < q k) →
        Path (fun a b => adj a b = true) (fun k => o (q k)) j → False := by
      intro q j hj h0j hjm hmn hq hin hpath
      have hx : adj (o (q 1)) (o (q 0)) = true := sym _ _ (hpath.step 0 (by omega))
      have hy : adj (o (q j)) (o (q 0)) = false := by
        have := hpath.free 0 j (by omega) (by omega)
        cases h : adj (o (q j)) (o (q 0))
        · rfl
        · exact absurd (sym _ _ h) this
      have h1 := (hin 1 (by omega) (by omega)).2
      obtain ⟨z, hz, hzy, hz1⟩ := cnt_other (hm.most (q j) (q 1) (by omega) (hq 1 (by omega))) h0j hx hy
      -- the first vertex of the path behind p 0 to which o z is adjacent
      obtain ⟨i', hi', pi', hall⟩ := least_true (fun k => adj (o z) (o (q (k + 1))) = true) (j - 1) (by rw [show j - 1 + 1 = j from by omega]; exact sym _ _ hzy)
      obtain ⟨i, rfl⟩ : ∃ i, i = i' + 1 := ⟨_, rfl⟩
      have hi1 : i' ≠ 0 := by
        rintro rfl
        rw [sym _ _ pi'] at hz1
        cases hz1
      have hzne : ∀ k, k ≤ i' + 1 → o z ≠ o (q k) := by
        intro k hk e
        have hzk : z ≠ q k := by
          by_cases hk0 : k = 0
          · subst hk0
            intro e2
            rw [← e2, hzy] at hy
            cases hy
          · by_cases hkj : k = j
            · rw [hkj]; omega
            · have := hin k (by omega) (by omega); omega
        rcases Nat.lt_or_gt_of_ne hzk with h | h
        · exact hm.inj _ _ h (hq k (by omega)) e
        · exact hm.inj _ _ h (by omega) e.symm
      by_cases hzx : adj (o z) (o (q 0)) = true
      · obtain ⟨k, hk0, hk, hzk⟩ := peo_inside sym l hl (fun k => o (q k)) (i' + 1) (o z) (by omega) (hpath.take (by omega)) (fun k hk => hmem _ (hq k (by omega))) (hmem _ (by omega)) hzne hzx pi'
        have := hall (k - 1) (by omega)
        rw [show k - 1 + 1 = k from by omega] at this
        exact this hzk
      · -- a path from q 0 to z whose ends come earlier
        have hz0 : z ≠ q 0 := fun e => hzne 0 (by omega) (by rw [e])
        refine ih (max (q 0) z) (by omega) (fun k => if k ≤ i' + 1 then q k else z) (i' + 2) (by omega) (by simp; omega) (by simp; omega) (by omega) ?_ ?_ ?_
        · intro k hk
          by_cases h : k ≤ i' + 1
          · simp only [h, if_true]; exact hq k (by omega)
          · simp only [h, if_false]; omega
        · intro k hk0 hk
          simp only [show k ≤ i' + 1 from by omega, if_true, Nat.zero_le, show ¬ (i' + 2 ≤ i' + 1) from by omega, if_false]
          by_cases hkj : k = j
          · subst hkj; exact ⟨h0j, hz⟩
          · have := hin k hk0 (by omega); omega
        · constructor
          · intro a b hab hb
            by_cases h : b ≤ i' + 1
            · simp only [h, show a ≤ i' + 1 from by omega, if_true]
              exact hpath.inj a b hab (by omega)
            · simp only [h, show a ≤ i' + 1 from by omega, if_true, if_false]
              exact fun e => hzne a (by omega) e.symm
          · intro a ha
            by_cases h : a + 1 ≤ i' + 1
            · simp only [h, show a ≤ i' + 1 from by omega, if_true]
              exact hpath.step a (by omega)
            · simp only [h, show a ≤ i' + 1 from by omega, if_true, if_false]
              rw [show a = i' + 1 from by omega]
              exact sym _ _ pi'
          · intro a b hab hb
            by_cases h : b ≤ i' + 1
            · simp only [h, show a ≤ i' + 1 from by omega, if_true]
              exact hpath.free a b hab (by omega)
            · simp only [h, show a ≤ i' + 1 from by omega, if_true, if_false]
              intro e
              by_cases ha0 : a = 0
              · subst ha0; exact hzx (sym _ _ e)
              · have := hall (a - 1) (by omega)
                rw [show a - 1 + 1 = a from by omega] at this
                exact this (sym _ _ e)
    intro q j hj h0m hjm hmn hq hin hpath
    have hne : q 0 ≠ q j := fun e => hpath.inj 0 j (by omega) (by omega) (by simp [e])
    rcases Nat.lt_or_gt_of_ne hne with h | h
    · exact main q j hj h hjm hmn hq hin hpath
    · refine main (fun k => q (j - k)) j hj (by simpa using h) (by simpa using h0m) hmn (fun k hk => hq _ (by omega)) ?_ (hpath.rev sym)
      intro k hk0 hk
      have := hin (j - k) (by omega) (by omega)
      simp only [Nat.sub_zero, Nat.sub_self]
      exact ⟨this.2, this.1⟩

/-- The neighbours that come ahead of a vertex in such an order are pairwise adjacent, if the graph has a perfect elimination order. -/
theorem mcs_clique {adj : Nat → Nat → Bool} (sym : ∀ a b, adj a b = true → adj b a = true) {o : Nat → Nat} {n : Nat} (hm : Mcs adj o n) {l : List Nat} (hl : Peo (fun a b => adj a b = true) l)
    (hmem : ∀ k, k < n → o k ∈ l) {k a b : Nat} (hk : k < n) (ha : a < k) (hb : b < k) (hab : a ≠ b) (h1 : adj (o k) (o a) = true) (h2 : adj (o k) (o b) = true) : adj (o a) (o b) = true := by
  by_cases h : adj (o a) (o b) = true
  · exact h
  · exfalso
    refine mcs_no_path sym hm hl hmem (max a b) (fun i => if i = 0 then a else if i = 1 then k else b) 2 (by omega) (by simp; omega) (by simp; omega) (by omega) ?_ ?_ ?_
    · intro i hi
      show (if i = 0 then a else if i = 1 then k else b) < n
      split
      · omega
      · split <;> omega
    · intro i h0 h2
      obtain rfl : i = 1 := by omega
      simp; omega
    · constructor
      · intro i j hij hj
        have : (i = 0 ∧ j = 1) ∨ (i = 0 ∧ j = 2) ∨ (i = 1 ∧ j = 2) := by omega
        rcases this with ⟨rfl, rfl⟩ | ⟨rfl, rfl⟩ | ⟨rfl, rfl⟩
        · simpa using hm.inj a k ha hk
        · simp only [if_true]
          rcases Nat.lt_or_gt_of_ne hab with h | h
          · simpa using hm.inj a b h (by omega)
          · simpa using fun e => hm.inj b a h (by omega) (Eq.symm e)
        · simpa using fun e => hm.inj b k hb hk (Eq.symm e)
      · intro i hi
        have : i = 0 ∨ i = 1 := by omega
        rcases this with rfl | rfl
        · simpa using sym _ _ h1
        · simpa using h2
      · intro i j hij hj
        obtain ⟨rfl, rfl⟩ : i = 0 ∧ j = 2 := by omega
        simpa using h

end Go.Chordal
end
section
/- Plain law of Extend: what it adds; its order of elimination is perfect. -/
namespace Go.Gr
open Go.Chordal
def bt (A : Nat → Nat) (i j : Nat) : Bool := (A i).testBit j
theorem bt_lt {A : Nat → Nat} (hS : Small A) {i j : Nat} (h : bt A i j = true) : j < 64 := by
  by_cases hj : j < 64
  · exact hj
  · have := high_bit (hS i) (show 64 ≤ j by omega)
    unfold bt at h
    rw [this] at h
    cases h
theorem fill_bit (ar : Nat) : ∀ (l : List Nat) (A : Nat → Nat), (∀ v ∈ l, v < 64) → l.Nodup → ∀ v j, (fill ar l A v).testBit j = ((A v).testBit j || (decide (v ∈ l) && (bclr ar v).testBit j))
  | [], A, _, _, v, j => by simp [fill]
  | x :: l, A, hl, hn, v, j => by
    rw [List.nodup_cons] at hn
    have e : fill ar (x :: l) A = fill ar l (fillStep ar A x) := by simp [fill]
    rw [e, fill_bit ar l _ (fun u hu => hl u (by simp [hu])) hn.2]
    by_cases h : v = x
    · subst h
      unfold fillStep
      rw [upd_same, Nat.testBit_or]
      simp [hn.1]
    · unfold fillStep
      rw [upd_other _ _ h]
      simp [h]
theorem verts_nodup (s : Nat) : (verts s).Nodup := by
  unfold verts
  exact List.Pairwise.filter _ List.nodup_range
theorem verts_empty {s : Nat} (hs : s < 18446744073709551616) (h : verts s = []) : s = 0 := by
  apply Nat.eq_of_testBit_eq
  intro i
  rw [Nat.zero_testBit]
  by_cases hi : i < 64
  · cases hb : s.testBit i with
    | false => rfl
    | true =>
      have : i ∈ verts s := mem_verts.2 ⟨hi, hb⟩
      rw [h] at this
      simp at this
  · exact high_bit hs (by omega)
theorem elim_at {A : Nat → Nat} {rest : Nat} (hI : Irr A) (hr : rest < 18446744073709551616) (h0 : rest ≠ 0) :
    ∃ b, b < 64 ∧ rest.testBit b = true ∧ elim A rest = (fill (A b &&& rest) (verts (A b &&& rest)) A, bclr rest b) ∧ (∀ u, u < 64 → rest.testBit u = true → size (A b &&& rest) ≤ size (A u &&& rest)) ∧
      (∀ u, u < b → rest.testBit u = true → size (A b &&& rest) < size (A u &&& rest)) := by
  rcases minOf_spec A rest hI (verts rest).reverse (verts rest) (fun v hv => (mem_verts.1 hv).1) rfl with h | ⟨b, l, m, hlm, hm, h1, h2⟩
  · exact absurd (verts_empty hr h) h0
  · have hb : b ∈ verts rest := by rw [hlm]; simp
    have hasc : (verts rest).Pairwise (· < ·) := by unfold verts; exact List.Pairwise.filter _ List.pairwise_lt_range
    refine ⟨b, (mem_verts.1 hb).1, (mem_verts.1 hb).2, by unfold elim; rw [hm]; rfl, fun u hu hub => ?_, fun u hu hub => ?_⟩
    · have hmem : u ∈ verts rest := mem_verts.2 ⟨hu, hub⟩
      rw [hlm] at hmem
      rcases List.mem_append.1 hmem with h | h
      · have := h1 u h; omega
      · rcases List.mem_cons.1 h with rfl | h
        · exact Nat.le_refl _
        · exact h2 u h
    · have hmem : u ∈ verts rest := mem_verts.2 ⟨by have := (mem_verts.1 hb).1; omega, hub⟩
      rw [hlm] at hmem hasc
      rw [List.pairwise_append, List.pairwise_cons] at hasc
      rcases List.mem_append.1 hmem with h | h
      · exact h1 u h
      · rcases List.mem_cons.1 h with rfl | h
        · omega
        · have := hasc.2.1.1 u h; omega
def SymA (A : Nat → Nat) : Prop := ∀ i j, i < 64 → j < 64 → (A i).testBit j = (A j).testBit i
structure Ext (A B : Nat → Nat) (rest : Nat) : Prop where
  mono : ∀ v j, (A v).testBit j = true → (B v).testBit j = true
  new : ∀ v j, (B v).testBit j = true → (A v).testBit j = true ∨ (v < 64 ∧ j < 64 ∧ rest.testBit v = true ∧ rest.testBit j = true ∧ v ≠ j)
  sym : SymA A → SymA B
  small : Small B
  peo : ∃ l, (∀ v, v ∈ l ↔ v < 64 ∧ rest.testBit v = true) ∧ l.Nodup ∧ Peo (fun a b => (B a).testBit b = true) l
theorem extFrom_spec : ∀ (f : Nat) (A : Nat → Nat) (rest : Nat), size rest < f → Irr A → Small A → rest < 18446744073709551616 → Ext A (extFrom f A rest) rest
  | 0, _, _, h, _, _, _ => by omega
  | f + 1, A, rest, h, hI, hS, hr => by
    unfold extFrom
    by_cases h0 : rest = 0
    · rw [if_pos h0]
      refine ⟨fun _ _ h => h, fun _ _ h => .inl h, fun h => h, hS, [], ?_, by simp, trivial⟩
      intro v; subst h0; simp
    · rw [if_neg h0]
      obtain ⟨b, hb64, hbr, he, _, _⟩ := elim_at hI hr h0
      rw [he]
      have har : (A b &&& rest) < 18446744073709551616 := and_lt rest (hS b)
      have hlt : ∀ v ∈ verts (A b &&& rest), v < 64 := fun v hv => (mem_verts.1 hv).1
      have hbit := fill_bit (A b &&& rest) (verts (A b &&& rest)) A hlt (verts_nodup _)
      have hI1 : Irr (fill (A b &&& rest) (verts (A b &&& rest)) A) := fill_irr _ hlt hI
      have hS1 : Small (fill (A b &&& rest) (verts (A b &&& rest)) A) := fill_small har _ hS
      have hr1 : bclr rest b < 18446744073709551616 := bclr_lt b hr
      have ih := extFrom_spec f _ (bclr rest b) (by have := (bclr_less hb64 hbr).2; omega) hI1 hS1 hr1
      have hsub : ∀ j, j < 64 → ((bclr rest b).testBit j = true ↔ rest.testBit j = true ∧ b ≠ j) := by
        intro j hj; rw [bclr_bit _ _ _ hb64 hj]; simp
      have hab : ∀ v j, v < 64 → j < 64 → ((bclr (A b &&& rest) v).testBit j = true ↔ (A b &&& rest).testBit j = true ∧ v ≠ j) := by
        intro v j hv hj; rw [bclr_bit _ _ _ hv hj]; simp
      generalize hA1 : fill (A b &&& rest) (verts (A b &&& rest)) A = A1 at *
      have hnew1 : ∀ v j, (A1 v).testBit j = true → (A v).testBit j = true ∨ (v < 64 ∧ j < 64 ∧ (A b &&& rest).testBit v = true ∧ (A b &&& rest).testBit j = true ∧ v ≠ j) := by
        intro v j hj
        have hj64 : j < 64 := bt_lt hS1 hj
        rw [hbit] at hj
        simp only [Bool.or_eq_true, Bool.and_eq_true, decide_eq_true_eq] at hj
        rcases hj with hj | ⟨hv, hj⟩
        · exact .inl hj
        · have hv2 := mem_verts.1 hv
          rw [hab v j hv2.1 hj64] at hj
          exact .inr ⟨hv2.1, hj64, hv2.2, hj.1, hj.2⟩
      have hmono1 : ∀ v j, (A v).testBit j = true → (A1 v).testBit j = true := by
        intro v j hj; rw [hbit, hj]; rfl
      have hadd1 : ∀ v j, v < 64 → j < 64 → (A b &&& rest).testBit v = true → (A b &&& rest).testBit j = true → v ≠ j → (A1 v).testBit j = true := by
        intro v j hv hj h1 h2 h3
        rw [hbit]
        have : (bclr (A b &&& rest) v).testBit j = true := (hab v j hv hj).2 ⟨h2, h3⟩
        rw [this]
        simp [mem_verts, hv, h1]
      have hsym1 : SymA A → SymA A1 := by
        intro hs i j hi hj
        rw [Bool.eq_iff_iff]
        have half : ∀ i j, i < 64 → j < 64 → (A1 i).testBit j = true → (A1 j).testBit i = true := by
          intro i j hi hj h
          rcases hnew1 i j h with h | ⟨_, _, h1, h2, h3⟩
          · exact hmono1 j i (by rw [← hs i j hi hj]; exact h)
          · exact hadd1 j i hj hi h2 h1 (fun e => h3 e.symm)
        exact ⟨half i j hi hj, half j i hj hi⟩
      refine ⟨fun v j hj => ih.mono v j (hmono1 v j hj), fun v j hj => ?_, fun hs => ih.sym (hsym1 hs), ih.small, ?_⟩
      · rcases ih.new v j hj with hj | ⟨h1, h2, h3, h4, h5⟩
        · rcases hnew1 v j hj with hj | ⟨h1, h2, h3, h4, h5⟩
          · exact .inl hj
          · rw [Nat.testBit_and] at h3 h4
            simp only [Bool.and_eq_true] at h3 h4
            exact .inr ⟨h1, h2, h3.2, h4.2, h5⟩
        · exact .inr ⟨h1, h2, ((hsub v h1).1 h3).1, ((hsub j h2).1 h4).1, h5⟩
      · obtain ⟨l, hl1, hl2, hl3⟩ := ih.peo
        have hbl : b ∉ l := fun hm => ((hsub b hb64).1 ((hl1 b).1 hm).2).2 rfl
        refine ⟨b :: l, fun v => ?_, List.nodup_cons.2 ⟨hbl, hl2⟩, ?_, hl3⟩
        · rw [List.mem_cons, hl1]
          constructor
          · rintro (rfl | ⟨h1, h2⟩)
            · exact ⟨hb64, hbr⟩
            · exact ⟨h1, ((hsub v h1).1 h2).1⟩
          · rintro ⟨h1, h2⟩
            by_cases e : v = b
            · exact .inl e
            · exact .inr ⟨h1, (hsub v h1).2 ⟨h2, fun e2 => e e2.symm⟩⟩
        · have key : ∀ a ∈ l, (extFrom f A1 (bclr rest b) b).testBit a = true → a < 64 ∧ (A b &&& rest).testBit a = true := by
            intro a ha h1
            have ha2 := (hl1 a).1 ha
            refine ⟨ha2.1, ?_⟩
            have hra := ((hsub a ha2.1).1 ha2.2).1
            have hA : (A b).testBit a = true := by
              rcases ih.new b a h1 with h | ⟨_, _, h, _, _⟩
              · rcases hnew1 b a h with h | ⟨_, _, h, _, _⟩
                · exact h
                · rw [Nat.testBit_and, hI b hb64] at h; cases h
              · exact absurd rfl ((hsub b hb64).1 h).2
            rw [Nat.testBit_and, hA, hra]; rfl
          intro a ha c hc h1 h2 hne
          have k1 := key a ha h1
          have k2 := key c hc h2
          exact ih.mono a c (hadd1 a c k1.1 k2.1 k1.2 k2.2 hne)
end Go.Gr
end
