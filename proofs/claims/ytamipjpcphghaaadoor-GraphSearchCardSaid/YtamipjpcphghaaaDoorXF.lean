/- The reference's Tree. -/
import Derived.Test.YtamipjpcphghaaaDoorXE
import Derived.Test.YtamipjpcphghaaaDoorWR
namespace Go.Proofs.Tg
open Go.RowKit Go.Gr
set_option maxHeartbeats 2000000
set_option maxRecDepth 100000
def goodLs (ls : List (List Int)) : Prop := ∀ l ∈ ls, 0 < l.length ∧ asc l
def RetRTree (ls : List (List Int)) (w : World) (e : Ending) (w' : World) : Prop :=
  (¬ goodLs ls ∧ e = .returned (.tuple #[.slice none 0 0, .int .i64 1]) ∧ Below w.heap.size w w') ∨
  (goodLs ls ∧ ∃ A c, e = .returned (.tuple #[.slice A ls.length c, .int .i64 0]) ∧ Ints w' A ((List.range ls.length).map (rtree ls ls.length).2) ∧ Below w.heap.size w w')
theorem farr_upd {n : Nat} {α : Type} (g : α → Value) (f : Nat → α) (i : Nat) (x : α) : (farr n fun k => g (f k)).setIfInBounds i (g x) = farr n fun k => g (updF f i x k) := by
  rw [farr_set]
  apply farr_congr
  intro k _
  unfold updF
  by_cases h : k = i <;> simp [h]
theorem Lists.two {w : World} {V : Option Addr} {ls : List (List Int)} (h : Lists w V ls) {j q : Nat} (hj : j < ls.length) (hq : q < ls.length) :
    ∃ ad A c B d, V = some ad ∧ w.cell? (ad.add j) = some (.slice A ls[j].length c) ∧ Ints w A ls[j] ∧ w.cell? (ad.add q) = some (.slice B ls[q].length d) ∧ Ints w B ls[q] := by
  obtain ⟨ad, A, c, rfl, h1, h2⟩ := Lists.at h hj
  obtain ⟨ad', B, d, e, h3, h4⟩ := Lists.at h hq
  injection e with e
  subst e
  exact ⟨ad, A, c, B, d, rfl, h1, h2, h3, h4⟩
/-- One pair of the reference's search for the next list. -/
theorem rtree_any (V : Option Addr) (c : Nat) (ls : List (List Int)) (w : World) (hV : Lists w V ls) (hl : ls.length ≤ 64) (hll : ∀ l ∈ ls, l.length ≤ 1000) :
    Calls Tryd.prog 23 #[.slice V ls.length c] w (RetRTree ls w) := by
  have hd : decide ((64 : Int) < (ls.length : Int)) = false := by simp; omega
  have HLL := Lib.hid hll
  clear hll
  go_enter Tryd.func23, Tryd.ntmps23
  go_wp2
  go_loopw [4] (fun i wr => ∃ k : Nat, i = .int .i64 k ∧ k ≤ ls.length ∧ Hid (goodLs (ls.take k)) ∧ Below w.heap.size w wr) (fun i _ => ls.length - (intOf i).toNat)
  case atStart => exact ⟨0, rfl, Nat.zero_le _, Lib.hid (by intro l h; simp at h), Below.refl _ _⟩
  case round =>
    obtain ⟨wo, rfl⟩ : ∃ wo : World, wo = wr := ⟨_, rfl⟩
    obtain ⟨k, rfl, hk, HG, hb⟩ := hrel
    by_cases hkl : k < ls.length
    · have hkb : decide ((k : Int) < (ls.length : Int)) = true := by simp; omega
      obtain ⟨ad, A, cl, rfl, hc, hA⟩ := Lists.at (hV.keep hb) hkl
      have HM : Hid (ls[k] ∈ ls) := Lib.hid (List.getElem_mem _)
      have HT : Hid (ls.take (k + 1) = ls.take k ++ [ls[k]]) := Lib.hid (List.take_succ_eq_append_getElem hkl)
      have hlk := HLL.out ls[k] (List.getElem_mem _)
      generalize ls[k] = l at hc hA HM HT hlk
      have k0 : (0 : Int) ≤ (k : Int) := by omega
      have k1 : (k : Int) < (ls.length : Int) := by omega
      by_cases hl0 : l.length = 0
      · have hl0b : ((l.length : Int) == 0) = true := beq_iff_eq.2 (by omega)
        have HBAD : Hid (¬ goodLs ls) := Lib.hid (fun h => by have := (h l HM.out).1; omega)
        clear hl0
        go_wp2
        go_ret2
        exact .inl ⟨HBAD.out, rfl, hb⟩
      · have hl0b : ((l.length : Int) == 0) = false := beq_eq_false_iff_ne.2 (by omega)
        clear hV
        go_wp2
        go_loopw [5] (fun j wr => ∃ q : Nat, j = .int .i64 q ∧ q ≤ l.length ∧ Hid (ascTo l q) ∧ Below wo.heap.size wo wr) (fun j _ => l.length - (intOf j).toNat)
        case atStart => exact ⟨0, rfl, Nat.zero_le _, Lib.hid (fun i _ h => by omega), Below.refl _ _⟩
        case round =>
          obtain ⟨q, rfl, hq, HA, hb2⟩ := hrel
          have hc2 := keep_cell hb2 hc
          by_cases hql : q < l.length
          · have hqb : decide ((q : Int) < (l.length : Int)) = true := by simp; omega
            obtain ⟨bd, rfl, hd0⟩ := Ints.at hA hql
            have hd2 := keep_cell hb2 hd0
            have hprev : 0 < q → ∃ y : Int, Hid (l[q - 1]'(by omega) = y) ∧ wr.cell? (bd.add (q - 1)) = some (.int .i64 y) := by
              intro h0
              obtain ⟨ad', e, g1⟩ := Ints.at hA (k := q - 1) (by omega)
              injection e with e
              subst e
              exact ⟨_, Lib.hid rfl, keep_cell hb2 g1⟩
            have FIN : Hid (¬ (0 ≤ l[q] ∧ l[q] < 64 ∧ (0 < q → l[q - 1]'(by omega) < l[q])) → ¬ goodLs ls) := Lib.hid (fun h h2 => by
              have := (h2 l HM.out).2 q hql hql
              exact h ⟨this.1.1, this.1.2, this.2⟩)
            obtain ⟨x, hx⟩ : ∃ x, l[q] = x := ⟨_, rfl⟩
            rw [hx] at hd2 FIN
            have HX := Lib.hid hx
            clear hx hd0 hA
            have q0 : (0 : Int) ≤ (q : Int) := by omega
            have q1 : (q : Int) < (l.length : Int) := by omega
            have hbb : Below w.heap.size w wr := below_all hb hb2
            by_cases h1 : x < 0
            · have d1 : decide (x < 0) = true := by simpa using h1
              clear hprev
              go_wp2
              go_quiet (fail)
              go_wp2
              go_ret2
              exact .inl ⟨FIN.out (by omega), rfl, below_drewN hbb _⟩
            · have d1 : decide (x < 0) = false := by simpa using h1
              by_cases h2 : 64 ≤ x
              · have d2 : decide (64 ≤ x) = true := by simpa using h2
                clear hprev
                go_wp2
                go_quiet (fail)
                go_wp2
                go_ret2
                exact .inl ⟨FIN.out (by omega), rfl, below_drewN hbb _⟩
              · have d2 : decide (64 ≤ x) = false := by simpa using h2
                by_cases hq0 : q = 0
                · have d3 : decide ((0 : Int) < (q : Int)) = false := by simp; omega
                  have d3' : decide (0 < q) = false := by simp; omega
                  have HQ := Lib.hid hq0
                  clear hprev hq0
                  go_wp2
                  go_quiet (fail)
                  go_wp2
                  go_roundw
                  case rel => exact ⟨q + 1, by go_num, by omega, Lib.hid (ascTo_succ hql HA.out (by rw [HX.out]; omega) (by have := HQ.out; omega)), below_drewN hb2 _⟩
                  case measure => simp [intOf]; omega
                · have hqp : 0 < q := by omega
                  obtain ⟨y, HY, hcy⟩ := hprev hqp
                  clear hprev hq0
                  have d3 : decide ((0 : Int) < (q : Int)) = true := by simp; omega
                  have d3' : decide (0 < q) = true := by simp; omega
                  by_cases h3 : x ≤ y
                  · have d4 : decide (x ≤ y) = true := by simpa using h3
                    have HF : Hid (¬ goodLs ls) := Lib.hid (FIN.out (fun h => by have := h.2.2 hqp; rw [HY.out] at this; omega))
                    have j0 : (0 : Int) ≤ (q : Int) - 1 := by omega
                    have j1 : (q : Int) - 1 < (l.length : Int) := by omega
                    have j2 : (1 : Int) ≤ (q : Int) := by omega
                    have j3 : ((q : Int) - 1).toNat = q - 1 := by omega
                    have j4 : IntKind.i64.wrap ((q : Int) - 1) = (q : Int) - 1 := IntWalk.i64_in _ (by omega)
                    go_wp2
                    go_quiet (fail)
                    go_wp2
                    go_ret2
                    exact .inl ⟨HF.out, rfl, below_drewN hbb _⟩
                  · have d4 : decide (x ≤ y) = false := by simpa using h3
                    have HF : Hid (ascTo l (q + 1)) := Lib.hid (ascTo_succ hql HA.out (by rw [HX.out]; omega) (fun _ => by rw [HX.out, HY.out]; omega))
                    have HB3 := Lib.hid (show q + 1 ≤ l.length by omega)
                    have HM3 := Lib.hid (show l.length - (q + 1) < l.length - q by omega)
                    have j0 : (0 : Int) ≤ (q : Int) - 1 := by omega
                    have j1 : (q : Int) - 1 < (l.length : Int) := by omega
                    have j2 : (1 : Int) ≤ (q : Int) := by omega
                    have j3 : ((q : Int) - 1).toNat = q - 1 := by omega
                    have j4 : IntKind.i64.wrap ((q : Int) - 1) = (q : Int) - 1 := IntWalk.i64_in _ (by omega)
                    go_wp2
                    go_quiet (fail)
                    clear j0 j1 j2 j3 j4
                    go_wp2
                    go_roundw
                    case rel => exact ⟨q + 1, by go_num, HB3.out, HF, below_drewN hb2 _⟩
                    case measure => simp [intOf]; omega
          · obtain rfl : q = l.length := by omega
            have hqb : decide ((l.length : Int) < (l.length : Int)) = false := by simp
            have HG2 : Hid (goodLs (ls.take (k + 1))) := Lib.hid (by
              rw [HT.out]
              intro l' hl'
              rcases List.mem_append.1 hl' with h | h
              · exact HG.out l' h
              · simp at h; subst h; exact ⟨by omega, HA.out⟩)
            go_wp2
            go_roundw
            case rel => exact ⟨k + 1, by go_num, by omega, HG2, below_all hb hb2⟩
            case measure => simp [intOf]; omega
    · obtain rfl : k = ls.length := by omega
      have HOK : Hid (goodLs ls) := Lib.hid (by have := HG.out; rwa [List.take_length] at this)
      clear HG hkl hk
      have m1 := fun W => make_ints ls.length ls.length (Nat.le_refl _) (by omega) W
      have m2 := fun W => make_bools ls.length (by omega) W
      simp only [farr_made] at m1
      have hgs := hb.size
      go_wp2
      clear m1 m2
      have hI0 : Blk ((wo.alloc (.cells (farr ls.length fun _ => .int .i64 0) 3)).alloc (.cells (farr ls.length fun _ => .bool false) 4)) wo.heap.size 3 (farr ls.length fun i => .int .i64 ((rtree ls 0).2 i)) := (Blk.new wo 3 (farr ls.length fun _ => .int .i64 0)).alloc _
      have hB0 : Blk ((wo.alloc (.cells (farr ls.length fun _ => .int .i64 0) 3)).alloc (.cells (farr ls.length fun _ => .bool false) 4)) (wo.heap.size + 1) 4 (farr ls.length fun i => .bool ((rtree ls 0).1 i)) := by
        have := Blk.new (wo.alloc (.cells (farr ls.length fun _ => .int .i64 0) 3)) 4 (farr ls.length fun _ => .bool false)
        rw [show (wo.alloc (.cells (farr ls.length fun _ => .int .i64 0) 3)).heap.size = wo.heap.size + 1 from by simp] at this
        exact this
      have hbw0 : Below w.heap.size w ((wo.alloc (.cells (farr ls.length fun _ => .int .i64 0) 3)).alloc (.cells (farr ls.length fun _ => .bool false) 4)) := (hb.alloc hb.size _).alloc (by simp; omega) _
      generalize (wo.alloc (.cells (farr ls.length fun _ => .int .i64 0) 3)).alloc (.cells (farr ls.length fun _ => .bool false) 4) = W at hI0 hB0 hbw0 ⊢
      generalize wo.heap.size = G at hI0 hB0 hgs ⊢
      clear hb
      go_loopw [8] (fun i wr => ∃ r : Nat, i = .int .i64 r ∧ r ≤ ls.length ∧ Blk wr G 3 (farr ls.length fun i => .int .i64 ((rtree ls r).2 i)) ∧ Blk wr (G + 1) 4 (farr ls.length fun i => .bool ((rtree ls r).1 i)) ∧ Below w.heap.size w wr) (fun i _ => ls.length - (intOf i).toNat)
      case atStart => exact ⟨0, rfl, Nat.zero_le _, hI0, hB0, hbw0⟩
      case round =>
        clear hI0 hB0 hbw0
        obtain ⟨r, rfl, hr, hI, hB, hb⟩ := hrel
        by_cases hrl : r < ls.length
        · have hrb : decide ((r : Int) < (ls.length : Int)) = true := by simp; omega
          have HN : Hid (rtree ls (r + 1) = (updF (rtree ls r).1 (rall ls (rtree ls r).1 ls.length ls.length).1.toNat true, updF (rtree ls r).2 (rall ls (rtree ls r).1 ls.length ls.length).1.toNat (if (rall ls (rtree ls r).1 ls.length ls.length).2.2 ≤ 0 then -1 else (rall ls (rtree ls r).1 ls.length ls.length).2.1))) := Lib.hid rfl
          generalize (rtree ls r).1 = inn at HN hB
          generalize (rtree ls r).2 = out at HN hI
          go_wp2
          go_loopw [12, 9, 10, 11] (fun i a b m wr => ∃ j : Nat, i = .int .i64 j ∧ j ≤ ls.length ∧ a = .int .i64 (rall ls inn ls.length j).1 ∧ b = .int .i64 (rall ls inn ls.length j).2.1 ∧ m = .int .i64 (rall ls inn ls.length j).2.2 ∧
              Blk wr G 3 (farr ls.length fun i => .int .i64 (out i)) ∧ Blk wr (G + 1) 4 (farr ls.length fun i => .bool (inn i)) ∧ Below w.heap.size w wr) (fun i _ _ _ _ => ls.length - (intOf i).toNat)
          case atStart => exact ⟨0, rfl, Nat.zero_le _, rfl, rfl, rfl, hI, hB, hb⟩
          case round =>
            clear hI hB hb
            obtain ⟨j, rfl, hj, rfl, rfl, rfl, hI, hB, hb⟩ := hrel
            by_cases hjl : j < ls.length
            · have hjb : decide ((j : Int) < (ls.length : Int)) = true := by simp; omega
              have HJ : Hid (rall ls inn ls.length (j + 1) = rrow ls inn j (rall ls inn ls.length j) ls.length) := Lib.hid rfl
              generalize rall ls inn ls.length j = b0 at HJ ⊢
              go_wp2
              go_loopw [13, 9, 10, 11] (fun i a b m wr => ∃ q : Nat, i = .int .i64 q ∧ q ≤ ls.length ∧ a = .int .i64 (rrow ls inn j b0 q).1 ∧ b = .int .i64 (rrow ls inn j b0 q).2.1 ∧ m = .int .i64 (rrow ls inn j b0 q).2.2 ∧
                  Blk wr G 3 (farr ls.length fun i => .int .i64 (out i)) ∧ Blk wr (G + 1) 4 (farr ls.length fun i => .bool (inn i)) ∧ Below w.heap.size w wr) (fun i _ _ _ _ => ls.length - (intOf i).toNat)
              case atStart => exact ⟨0, rfl, Nat.zero_le _, rfl, rfl, rfl, hI, hB, hb⟩
              case round =>
                clear hI hB hb
                obtain ⟨q, rfl, hq, rfl, rfl, rfl, hI, hB, hb⟩ := hrel
                by_cases hql : q < ls.length
                · have hqb : decide ((q : Int) < (ls.length : Int)) = true := by simp; omega
                  have HQ : Hid (rrow ls inn j b0 (q + 1) = rpair ls inn j (rrow ls inn j b0 q) q) := Lib.hid (rrow_succ _ _ _ _ _)
                  obtain ⟨b1, b2, b3, hbb⟩ : ∃ b1 b2 b3 : Int, rrow ls inn j b0 q = (b1, b2, b3) := ⟨_, _, _, rfl⟩
                  rw [hbb] at HQ ⊢
                  clear hbb
                  unfold rpair at HQ
                  simp only at HQ ⊢
                  have cj := (hB.cell j).trans (farr_at ls.length _ hjl)
                  have cq := (hB.cell q).trans (farr_at ls.length _ hql)
                  have j0 : (0 : Int) ≤ (j : Int) := by omega
                  have j1 : (j : Int) < (ls.length : Int) := by omega
                  have q0 : (0 : Int) ≤ (q : Int) := by omega
                  have q1 : (q : Int) < (ls.length : Int) := by omega
                  by_cases h1 : inn j = true
                  · have hN : rrow ls inn j b0 (q + 1) = (b1, b2, b3) := by rw [HQ.out, if_neg (by simp [h1])]
                    have HN2 := Lib.hid hN
                    rw [h1] at cj
                    clear HQ hN h1 hV
                    generalize inn q = iq at cq
                    go_wp2
                    go_quiet (fail)
                    go_wp2
                    go_roundw
                    case rel => exact ⟨q + 1, by go_num, by omega, by rw [HN2.out], by rw [HN2.out], by rw [HN2.out], hI.drewN _, hB.drewN _, below_drewN hb _⟩
                    case measure => simp [intOf]; omega
                  · have h1' : inn j = false := by simpa using h1
                    clear h1
                    by_cases h2 : inn q = false
                    · have hN : rrow ls inn j b0 (q + 1) = (b1, b2, b3) := by rw [HQ.out, if_neg (by simp [h2])]
                      have HN2 := Lib.hid hN
                      rw [h1'] at cj
                      rw [h2] at cq
                      clear HQ hN h1' h2 hV
                      go_wp2
                      go_quiet (fail)
                      go_wp2
                      go_roundw
                      case rel => exact ⟨q + 1, by go_num, by omega, by rw [HN2.out], by rw [HN2.out], by rw [HN2.out], hI.drewN _, hB.drewN _, below_drewN hb _⟩
                      case measure => simp [intOf]; omega
                    · have h2' : inn q = true := by simpa using h2
                      clear h2
                      rw [h1'] at cj
                      rw [h2'] at cq
                      obtain ⟨ad, A, ca, B, cb, rfl, hcA, hA, hcB, hBB⟩ := Lists.two (hV.keep hb) hjl hql
                      have HLJ := Lib.hid (HLL.out ls[j] (List.getElem_mem _))
                      have HLQ := Lib.hid (HLL.out ls[q] (List.getElem_mem _))
                      have e1 : ls.getD j [] = ls[j] := by simp [hjl]
                      have e2 : ls.getD q [] = ls[q] := by simp [hql]
                      rw [e1, e2] at HQ
                      clear e1 e2
                      generalize ls[j] = lj at hcA hA HLJ HQ
                      generalize ls[q] = lq at hcB hBB HLQ HQ
                      have HC1 : Hid (∀ n, Calls Tryd.prog 62 #[.slice A lj.length ca, .slice B lq.length cb] (wr.drewN n) fun e w' => e = .returned (.int .i64 (common lj lq : Nat)) ∧ ∃ m, w' = wr.drewN m) :=
                        Lib.hid fun n => (common_any A B lj lq ca cb (wr.drewN n) (hA.drewN n) (hBB.drewN n) HLJ.out HLQ.out).mono fun _ _ ⟨h, m, hm⟩ => ⟨h, n + m, by rw [hm, World.drewN_drewN]⟩
                      have HC2 : Hid (∀ a n, Calls Tryd.prog 62 #[.slice A lj.length ca, .slice B lq.length cb] (wr.drewN (a + n)) fun e w' => e = .returned (.int .i64 (common lj lq : Nat)) ∧ ∃ m, w' = wr.drewN (a + m)) :=
                        Lib.hid fun a n => (common_any A B lj lq ca cb (wr.drewN (a + n)) (hA.drewN _) (hBB.drewN _) HLJ.out HLQ.out).mono fun _ _ ⟨h, m, hm⟩ => ⟨h, n + m, by rw [hm, World.drewN_drewN, Nat.add_assoc]⟩
                      generalize common lj lq = z at HQ HC1 HC2
                      clear hA hBB HLJ HLQ hV
                      by_cases h3 : b3 < (z : Int)
                      · have d3 : decide (b3 < (z : Int)) = true := by simpa using h3
                        have hN : rrow ls inn j b0 (q + 1) = ((j : Int), (q : Int), (z : Int)) := by rw [HQ.out, if_pos ⟨h1', h2', h3⟩]
                        have HN2 := Lib.hid hN
                        clear HQ hN h1' h2'
                        go_wp2
                        go_quiet ((go_at_call 62; exact HC1.out _))
                        go_wp2
                        go_quiet ((go_at_call 62; exact HC2.out _ _))
                        go_wp2
                        go_roundw
                        case rel => exact ⟨q + 1, by go_num, by omega, by rw [HN2.out], by rw [HN2.out], by rw [HN2.out], hI.drewN _, hB.drewN _, below_drewN hb _⟩
                        case measure => simp [intOf]; omega
                      · have d3 : decide (b3 < (z : Int)) = false := by simpa using h3
                        have hN : rrow ls inn j b0 (q + 1) = (b1, b2, b3) := by rw [HQ.out, if_neg (fun h => h3 h.2.2)]
                        have HN2 := Lib.hid hN
                        clear HQ hN h1' h2'
                        go_wp2
                        go_quiet ((go_at_call 62; exact HC1.out _))
                        go_wp2
                        go_roundw
                        case rel => exact ⟨q + 1, by go_num, by omega, by rw [HN2.out], by rw [HN2.out], by rw [HN2.out], hI.drewN _, hB.drewN _, below_drewN hb _⟩
                        case measure => simp [intOf]; omega
                · obtain rfl : q = ls.length := by omega
                  have hqb : decide ((ls.length : Int) < (ls.length : Int)) = false := by simp
                  rw [← HJ.out]
                  go_wp2
                  go_roundw
                  case rel => exact ⟨j + 1, by go_num, by omega, rfl, rfl, rfl, hI, hB, hb⟩
                  case measure => simp [intOf]; omega
            · obtain rfl : j = ls.length := by omega
              have hjb : decide ((ls.length : Int) < (ls.length : Int)) = false := by simp
              obtain ⟨hb1, hb2⟩ := rall_lt (ls := ls) (inn := inn) (m := ls.length) (by omega) ls.length (Nat.le_refl _)
              generalize rall ls inn ls.length ls.length = bb at HN hb1 hb2 ⊢
              obtain ⟨b1, b2, b3⟩ := bb
              simp only at HN hb1 hb2 ⊢
              obtain ⟨bn, rfl⟩ := Int.eq_ofNat_of_zero_le hb1
              rw [Int.toNat_natCast] at HN
              have hbn : bn < ls.length := by omega
              have cI := (hI.cell bn).trans (farr_at ls.length _ hbn)
              have cB := (hB.cell bn).trans (farr_at ls.length _ hbn)
              have fI := hI.frozen bn
              have fB := hB.frozen bn
              have HI := Lib.hid hI
              have HB := Lib.hid hB
              generalize out bn = o0 at cI
              generalize inn bn = i0 at cB
              clear hI hB
              by_cases h3 : b3 ≤ 0
              · have d3 : decide (b3 ≤ 0) = true := by simpa using h3
                rw [if_pos h3] at HN
                go_wp2
                go_roundw
                case rel =>
                  refine ⟨r + 1, by go_num, by omega, ?_, ?_, (hb.setCell (by simp; omega) _).setCell (by simp; omega) _⟩
                  · have := (HI.out.far (p := ⟨G + 1, bn, none⟩) (by simp) (.bool true)).set bn (.int .i64 (-1))
                    rw [HN.out]
                    rw [farr_upd (fun x => Value.int .i64 x)] at this
                    exact this
                  · have := (HB.out.set bn (.bool true)).far (p := ⟨G, bn, none⟩) (by simp) (.int .i64 (-1))
                    rw [HN.out]
                    rw [farr_upd (fun x => Value.bool x)] at this
                    exact this
                case measure => simp [intOf]; omega
              · have d3 : decide (b3 ≤ 0) = false := by simpa using h3
                rw [if_neg h3] at HN
                go_wp2
                go_roundw
                case rel =>
                  refine ⟨r + 1, by go_num, by omega, ?_, ?_, (hb.setCell (by simp; omega) _).setCell (by simp; omega) _⟩
                  · have := (HI.out.far (p := ⟨G + 1, bn, none⟩) (by simp) (.bool true)).set bn (.int .i64 b2)
                    rw [HN.out]
                    rw [farr_upd (fun x => Value.int .i64 x)] at this
                    exact this
                  · have := (HB.out.set bn (.bool true)).far (p := ⟨G, bn, none⟩) (by simp) (.int .i64 b2)
                    rw [HN.out]
                    rw [farr_upd (fun x => Value.bool x)] at this
                    exact this
                case measure => simp [intOf]; omega
        · obtain rfl : r = ls.length := by omega
          have hrb : decide ((ls.length : Int) < (ls.length : Int)) = false := by simp
          go_wp2
          go_ret2
          refine .inr ⟨HOK.out, some ⟨G, 0, none⟩, ls.length, rfl, ?_, hb⟩
          have := sl_blk (n := ls.length) (sz := 1) (xs := ((List.range ls.length).map (rtree ls ls.length).2).map vi) (w := wr) (g := G) (t := 3) (by
            rw [List.map_map]
            exact hI) (by simp)
          show Sl _ _ _ 1 _
          rw [List.length_map, List.length_range]
          exact this
end Go.Proofs.Tg
