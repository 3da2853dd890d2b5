/- Parts of the proof: MO4, MO5, XR1, WB2, WS2. -/
import Derived.Laws.OwnMore
import Derived.RegionTactic
import Derived.ChangeAlike
import Derived.Deep.DeepCutAuto
import Derived.Test.YtpkompfkhoceoaaGreatDoorMMV1
import Derived.Test.YtpkompfkhoceoaaGreatDoorMMV2
import Derived.Test.YtpkompfkhoceoaaGreatDoorMMV3
import Derived.Test.YtpkompfkhoceoaaGreatDoorMMV4
section
/- Plain: how many monomials there are. -/
namespace Go.Mm
def cnt (n d : Nat) : Nat := (mons n d).length
theorem monTo_all (n d : Nat) : monTo n (d + 1) = mons n d := rfl
theorem exTo_cnt (n d : Nat) : ∀ k, (exTo n d k).length = (monTo n k).length
  | 0 => rfl
  | k + 1 => by rw [exTo_len, monTo_len, exTo_cnt n d k]
theorem exact_cnt (n d : Nat) : (exactL (n + 1) d).length = cnt n d := by rw [← exTo_all, exTo_cnt, monTo_all]; rfl
theorem cnt_zero (d : Nat) : cnt 0 d = 1 := by
  have h : ∀ k, (monTo 0 (k + 1)).length = 1 := by
    intro k
    induction k with
    | zero => rfl
    | succ k ih => rw [monTo_len, ih]; simp [exactL]
  exact h d
theorem cnt_d0 : ∀ n, cnt n 0 = 1
  | 0 => cnt_zero 0
  | n + 1 => by
    have : cnt (n + 1) 0 = (exactL (n + 1) 0).length := by
      unfold cnt mons
      simp [List.range_succ]
    rw [this, exact_cnt, cnt_d0 n]
theorem cnt_succ (n d : Nat) : cnt (n + 1) (d + 1) = cnt (n + 1) d + cnt n (d + 1) := by
  have : cnt (n + 1) (d + 1) = cnt (n + 1) d + (exactL (n + 1) (d + 1)).length := by
    unfold cnt
    rw [← monTo_all, monTo_len, monTo_all]
  rw [this, exact_cnt]
/-- Both rules for the binomials. -/
theorem cnt_rules : ∀ n, (∀ d, (d + 1) * cnt n (d + 1) = (d + 1 + n) * cnt n d) ∧ (∀ d, 0 < n → n * cnt n d = (d + n) * cnt (n - 1) d)
  | 0 => ⟨fun d => by rw [cnt_zero, cnt_zero], fun d h => absurd h (by omega)⟩
  | n + 1 => by
    obtain ⟨hQ, _⟩ := cnt_rules n
    have hP : ∀ d, (n + 1) * cnt (n + 1) d = (d + (n + 1)) * cnt n d := by
      intro d
      induction d with
      | zero => rw [cnt_d0, cnt_d0]; omega
      | succ d ih =>
        have h1 := hQ d
        rw [cnt_succ, Nat.mul_add, ih, show d + (n + 1) = d + 1 + n by omega, ← h1, ← Nat.add_mul]
    refine ⟨fun d => ?_, fun d _ => hP d⟩
    have h1 := hP (d + 1)
    have h2 := cnt_succ n d
    have h3 : (d + 1 + (n + 1)) * cnt (n + 1) (d + 1) = (d + 1 + (n + 1)) * cnt (n + 1) d + (d + 1 + (n + 1)) * cnt n (d + 1) := by rw [h2, Nat.mul_add]
    rw [← h1, Nat.add_mul] at h3
    omega
theorem cnt_step (n d : Nat) : cnt n d * (d + (n + 1)) / (n + 1) = cnt (n + 1) d := by
  have h := (cnt_rules (n + 1)).2 d (by omega)
  rw [Nat.add_sub_cancel] at h
  rw [Nat.mul_comm, ← h, Nat.mul_div_cancel_left _ (by omega)]
theorem cnt_mono_d (n d : Nat) : cnt n d ≤ cnt n (d + 1) := by
  unfold cnt
  rw [← monTo_all n (d + 1), monTo_len, monTo_all]
  omega
theorem cnt_le_d (n d e : Nat) (h : d ≤ e) : cnt n d ≤ cnt n e := by
  obtain ⟨k, rfl⟩ : ∃ k, e = d + k := ⟨e - d, by omega⟩
  clear h
  induction k with
  | zero => exact Nat.le_refl _
  | succ k ih => exact Nat.le_trans ih (cnt_mono_d n (d + k))
theorem cnt_up (n d : Nat) : cnt (n + 1) d ≤ (d + 1) * cnt n d := by
  induction d with
  | zero => rw [cnt_d0, cnt_d0]; omega
  | succ d ih =>
    rw [cnt_succ]
    have h := cnt_mono_d n d
    have h2 : (d + 1) * cnt n d ≤ (d + 1) * cnt n (d + 1) := Nat.mul_le_mul_left _ h
    rw [show d + 1 + 1 = (d + 1) + 1 from rfl, Nat.add_mul (d + 1) 1]
    omega
theorem cnt_bound : ∀ (n d : Nat), cnt n d ≤ (d + 1) ^ n
  | 0, d => by rw [cnt_zero]; simp
  | n + 1, d => by
    rw [Nat.pow_succ, Nat.mul_comm]
    exact Nat.le_trans (cnt_up n d) (Nat.mul_le_mul_left _ (cnt_bound n d))
theorem monTo_le (n d k : Nat) (h : k ≤ d + 1) : (monTo n k).length ≤ cnt n d := by
  cases k with
  | zero => simp [monTo_zero]
  | succ k => rw [monTo_all]; exact cnt_le_d n k d (by omega)
end Go.Mm
end
section
/- The program's number of monomials, and their list. -/
namespace Go.Proofs.Tg
open Go.RowKit Go.Mm
set_option maxHeartbeats 8000000
set_option maxRecDepth 100000
theorem cnt_fit {n d : Nat} (hn : n ≤ 6) (hd : d ≤ 24) : cnt n d ≤ 244140625 := by
  refine Nat.le_trans (cnt_bound n d) ?_
  refine Nat.le_trans (Nat.pow_le_pow_left (show d + 1 ≤ 25 by omega) n) ?_
  exact Nat.le_trans (Nat.pow_le_pow_right (by omega) hn) (by decide)
theorem choose_any (n d : Nat) (hn : n ≤ 6) (hd : d ≤ 24) (w : World) :
    Calls Tryz.prog 64 #[.int .i64 ((n + d : Nat) : Int), .int .i64 (n : Nat)] w fun e w' => e = .returned (.int .i64 (cnt n d : Nat)) ∧ Below w.heap.size w w' := by
  have hlt : decide (((n + d : Nat) : Int) < (n : Int)) = false := decide_eq_false (by omega)
  obtain ⟨s, hs⟩ : ∃ s, n + d = s := ⟨_, rfl⟩
  rw [hs] at hlt ⊢
  have hsI : (s : Int) - (n : Int) = (d : Int) := by omega
  have hs30 : s ≤ 30 := by omega
  have w1 : IntKind.i64.wrap ((s : Int) - (n : Int)) = (d : Int) := by rw [hsI]; exact IntWalk.i64_in _ (by omega)
  have HC := Lib.hid (fun k (h : k ≤ 6) => cnt_fit (n := k) h hd)
  have H0 : Hid ((1 : Nat) = cnt 0 d) := Lib.hid (cnt_zero d).symm
  clear hs
  go_enter Tryz.func64, Tryz.ntmps64
  go_wp2
  go_loopw [5, 6] (fun s5 s6 wr => ∃ (k r : Nat), s6 = .int .i64 ((k : Int) + 1) ∧ s5 = .int .i64 (r : Nat) ∧ k ≤ n ∧ r ≤ 244140625 ∧ Hid (r = cnt k d) ∧ Below w.heap.size w wr) (fun _ s6 _ => n + 1 - (intOf s6).toNat)
  case atStart => exact ⟨0, 1, by go_num, rfl, Nat.zero_le _, by omega, H0, Below.refl _ _⟩
  case round =>
    obtain ⟨wo, rfl⟩ : ∃ wo : World, wo = wr := ⟨_, rfl⟩
    obtain ⟨k, r, rfl, rfl, hk, hr, HR, hbw⟩ := hrel
    by_cases hkn : k = n
    · have hd1 : decide ((k : Int) + 1 ≤ (n : Int)) = false := decide_eq_false (by omega)
      have HK := Lib.hid hkn
      clear hkn
      go_wp2
      go_ret
      exact ⟨by rw [← HK.out, ← HR.out]; rfl, hbw⟩
    · have hkn2 : k < n := by omega
      have hd1 : decide ((k : Int) + 1 ≤ (n : Int)) = true := decide_eq_true (by omega)
      obtain ⟨q, hq⟩ : ∃ q, r * (d + (k + 1)) / (k + 1) = q := ⟨_, rfl⟩
      have HQ : Hid (q = cnt (k + 1) d) := Lib.hid (by rw [← hq, HR.out, cnt_step])
      have hql : q ≤ 244140625 := by rw [HQ.out]; exact HC.out _ (by omega)
      have hpr : r * (d + (k + 1)) ≤ 244140625 * 30 := Nat.mul_le_mul hr (by omega)
      obtain ⟨pr, hpe⟩ : ∃ pr, r * (d + (k + 1)) = pr := ⟨_, rfl⟩
      rw [hpe] at hq hpr
      have e1 : (r : Int) * ((d : Int) + ((k : Int) + 1)) = (pr : Int) := by
        rw [← hpe]; simp
      have w2 : IntKind.i64.wrap (pr : Int) = (pr : Int) := IntWalk.i64_in _ (by omega)
      have w4 : IntKind.i64.wrap ((d : Int) + ((k : Int) + 1)) = (d : Int) + ((k : Int) + 1) := IntWalk.i64_in _ (by omega)
      have e2 : Int.tdiv (pr : Int) ((k : Int) + 1) = (q : Int) := by
        rw [show (k : Int) + 1 = ((k + 1 : Nat) : Int) by omega, ← Int.ofNat_tdiv, hq]
      have w3 : IntKind.i64.wrap (q : Int) = (q : Int) := IntWalk.i64_in _ (by omega)
      have nz : (((k : Int) + 1) == 0) = false := beq_eq_false_iff_ne.2 (by omega)
      clear hpe hq hkn
      go_wp2
      go_roundw
      case rel => exact ⟨k + 1, q, by go_num, rfl, by omega, hql, HQ, hbw⟩
      case measure => simp [intOf]; omega
theorem count_any (n d : Nat) (hn : n ≤ 6) (hd : d ≤ 24) (w : World) :
    Calls Tryz.prog 36 #[.int .i64 (n : Nat), .int .i64 (d : Nat)] w fun e w' => e = .returned (.tuple #[.int .i64 (cnt n d : Nat), .bool true]) ∧ Below w.heap.size w w' := by
  have H := Lib.hid (choose_any n d hn hd w)
  have d1 : decide ((n : Int) < 0) = false := decide_eq_false (by omega)
  have d2 : decide ((6 : Int) < (n : Int)) = false := decide_eq_false (by omega)
  have d3 : decide ((d : Int) < 0) = false := decide_eq_false (by omega)
  have d4 : decide ((24 : Int) < (d : Int)) = false := decide_eq_false (by omega)
  obtain ⟨s, hs⟩ : ∃ s, n + d = s := ⟨_, rfl⟩
  rw [hs] at H
  have hsI : (n : Int) + (d : Int) = (s : Int) := by omega
  clear hs
  go_enter Tryz.func36, Tryz.ntmps36
  go_wp2_with (fail)
  refine H.out.mono ?_
  rintro e w2 ⟨rfl, hb⟩
  go_wp2
  go_ret2
  exact ⟨rfl, hb⟩
/-- A list of monomials of the call's own. -/
def RetMons (n d : Nat) (w : World) (e : Ending) (w' : World) : Prop :=
  ∃ A c rs, e = .returned (.tuple #[.slice A (List.length rs) c, .int .i64 0]) ∧ OwnI w.heap.size w' A c rs ∧ rs.map IRow.l = mons n d ∧ Below w.heap.size w w'
end Go.Proofs.Tg
end
section
/- The reference's order of monomials. -/
namespace Go.Proofs.Tg
open Go.RowKit Go.Gr Go.Mo
set_option maxHeartbeats 2000000
set_option maxRecDepth 100000
theorem rord_any (A B : Option Addr) (c d : Nat) (a b : List Int) (w : World) (hA : Ints w A a) (hB : Ints w B b) (hl : a.length = b.length) (hn : a.length ≤ 64) (ha : low20 a = true) (hb : low20 b = true) :
    Calls Tryz.prog 88 #[.slice A a.length c, .slice B b.length d] w fun e w' => e = .returned (.int .i64 (Mo.ord a b)) ∧ Dr w w' := by
  have HL := Lib.hid hl
  have HA := Lib.hid (low20_iff.1 ha)
  have HB := Lib.hid (low20_iff.1 hb)
  have hn2 : b.length ≤ 64 := by omega
  clear hl ha hb
  go_enter Tryz.func88, Tryz.ntmps88
  go_wp2
  go_loopw [5, 6, 7] (fun s t i wr => ∃ k : Nat, k ≤ a.length ∧ i = .int .i64 k ∧ ∃ y z : Int, s = .int .i64 y ∧ t = .int .i64 z ∧ 0 ≤ y ∧ y ≤ 1048576 * 64 ∧ 0 ≤ z ∧ z ≤ 1048576 * 64 ∧ Hid (y = (a.take k).sum ∧ z = (b.take k).sum) ∧ Dr w wr) (fun _ _ i _ => a.length - (intOf i).toNat)
  case atStart => exact ⟨0, Nat.zero_le _, rfl, 0, 0, rfl, rfl, by omega, by omega, by omega, by omega, Lib.hid ⟨rfl, rfl⟩, Dr.refl _⟩
  case round =>
    obtain ⟨k, hk, rfl, y, z, rfl, rfl, hy0, hy1, hz0, hz1, HZ, hdr⟩ := hrel
    by_cases hlt : k < a.length
    · have hlt2 : k < b.length := by have := HL.out; omega
      obtain ⟨ad, rfl, hc1⟩ := Ints.at (hA.keep hdr.below) hlt
      obtain ⟨bd, rfl, hc2⟩ := Ints.at (hB.keep hdr.below) hlt2
      have HS1 : Hid ((a.take (k + 1)).sum = y + a[k]) := Lib.hid (by rw [sum_take_succ a k hlt, ← HZ.out.1])
      have HS2 : Hid ((b.take (k + 1)).sum = z + b[k]) := Lib.hid (by rw [sum_take_succ b k hlt2, ← HZ.out.2])
      have hb1 := HA.out a[k] (List.getElem_mem _)
      have hb2 := HB.out b[k] (List.getElem_mem _)
      have hs1 := sum_bound a (k + 1) HA.out
      have hs2 := sum_bound b (k + 1) HB.out
      rw [HS1.out] at hs1
      rw [HS2.out] at hs2
      have hl1 : (a.take (k + 1)).length ≤ 64 := Nat.le_trans (List.length_take_le' _ _) hn
      have hl2 : (b.take (k + 1)).length ≤ 64 := Nat.le_trans (List.length_take_le' _ _) hn2
      obtain ⟨p1, p2⟩ := hb1
      obtain ⟨p3, p4⟩ := hb2
      have r1 : y + a[k] ≤ 1048576 * 64 := by omega
      have r2 : z + b[k] ≤ 1048576 * 64 := by omega
      clear hs1 hs2 hl1 hl2
      generalize a[k] = p at *
      generalize b[k] = q at *
      have q0 : (0 : Int) ≤ (k : Int) := by omega
      have q1 : (k : Int) < (a.length : Int) := by omega
      have q2 : (k : Int) < (b.length : Int) := by omega
      have q3 : ((k : Int)).toNat = k := by omega
      have q4 : IntKind.i64.wrap (y + p) = y + p := IntWalk.i64_in _ (by omega)
      have q5 : IntKind.i64.wrap (z + q) = z + q := IntWalk.i64_in _ (by omega)
      clear hA hB
      go_wp2
      go_quiet (fail)
      go_wp2
      go_roundw
      case rel => exact ⟨k + 1, by omega, by go_num, y + p, z + q, rfl, rfl, by omega, by omega, by omega, by omega, Lib.hid ⟨HS1.out.symm, HS2.out.symm⟩, hdr.drewN _⟩
      case measure => simp [intOf]; omega
    · obtain rfl : k = a.length := by omega
      have h1 : y = a.sum := by rw [HZ.out.1, List.take_length]
      have h2 : z = b.sum := by rw [HZ.out.2, HL.out, List.take_length]
      by_cases hyz : y = z
      · have hbb : (y != z) = false := by simp [hyz]
        have HO : Hid (Mo.ord a b = ordT a b a.length) := Lib.hid (by unfold Mo.ord; rw [if_pos (by rw [← h1, ← h2]; exact hyz)])
        clear h1 h2 hyz
        obtain ⟨wo, rfl⟩ : ∃ wo : World, wo = wr := ⟨_, rfl⟩
        go_wp2
        go_loopw [8] (fun i wr => ∃ z : Int, i = .int .i64 z ∧ -1 ≤ z ∧ z < a.length ∧ Hid (Mo.ord a b = ordT a b (z + 1).toNat) ∧ Dr w wr) (fun i _ => (intOf i + 1).toNat)
        case atStart => exact ⟨(a.length : Int) - 1, rfl, by omega, by omega, Lib.hid (by rw [HO.out]; congr 1; omega), hdr⟩
        case round =>
          clear hdr
          obtain ⟨z', rfl, hz2, hz3, HZ', hdr⟩ := hrel
          by_cases hneg : z' = -1
          · subst hneg
            have HF : Hid (Mo.ord a b = 0) := Lib.hid (by rw [HZ'.out]; rfl)
            go_wp2
            go_ret
            exact ⟨by rw [HF.out]; rfl, hdr⟩
          · obtain ⟨j, rfl⟩ : ∃ j : Nat, z' = j := ⟨z'.toNat, by omega⟩
            have hlt1 : j < a.length := by omega
            have hlt2 : j < b.length := by have := HL.out; omega
            obtain ⟨ad, rfl, hc1⟩ := Ints.at (hA.keep hdr.below) hlt1
            obtain ⟨bd, rfl, hc2⟩ := Ints.at (hB.keep hdr.below) hlt2
            have HX : Hid (Mo.ord a b = if a[j] = b[j] then ordT a b j else if b[j] < a[j] then -1 else 1) := Lib.hid (by
              rw [HZ'.out, show ((j : Int) + 1).toNat = j + 1 by omega, ordT]
              simp [hlt1, hlt2])
            have q0 : (0 : Int) ≤ (j : Int) := by omega
            have q1 : (j : Int) < (a.length : Int) := by omega
            have q2 : (j : Int) < (b.length : Int) := by omega
            have q3 : ((j : Int)).toNat = j := by omega
            clear hneg hA hB
            generalize a[j] = p at *
            generalize b[j] = q at *
            by_cases hpq : p = q
            · have hb2 : (p != q) = false := by simp [hpq]
              have HX2 : Hid (Mo.ord a b = ordT a b j) := Lib.hid (by rw [HX.out, if_pos hpq])
              clear hpq HX
              go_wp2
              go_quiet (fail)
              go_wp2
              go_roundw
              case rel => exact ⟨(j : Int) - 1, rfl, by omega, by omega, Lib.hid (by rw [HX2.out]; congr 1; omega), hdr.drewN _⟩
              case measure => simp [intOf]
            · have hb2 : (p != q) = true := by simp [hpq]
              have HX2 : Hid (Mo.ord a b = if q < p then -1 else 1) := Lib.hid (by rw [HX.out, if_neg hpq])
              clear hpq HX
              go_wp2
              go_quiet (fail)
              have k1 : (wr.drewN nq).cell? (ad.add j) = some (.int .i64 p) := hc1
              have k2 : (wr.drewN nq).cell? (bd.add j) = some (.int .i64 q) := hc2
              have hdr2 := hdr.drewN nq
              generalize wr.drewN nq = W at *
              by_cases hqp : q < p
              · have hb3 : decide (q < p) = true := by simpa using hqp
                have HX3 : Hid (Mo.ord a b = -1) := Lib.hid (by rw [HX2.out, if_pos hqp])
                go_wp2
                go_quiet (fail)
                go_wp2
                go_ret
                exact ⟨by rw [HX3.out]; rfl, hdr2.drewN _⟩
              · have hb3 : decide (q < p) = false := by simpa using hqp
                have HX3 : Hid (Mo.ord a b = 1) := Lib.hid (by rw [HX2.out, if_neg hqp])
                go_wp2
                go_quiet (fail)
                go_wp2
                go_ret
                exact ⟨by rw [HX3.out]; rfl, hdr2.drewN _⟩
      · have hbb : (y != z) = true := by simp [hyz]
        by_cases hlt3 : y < z
        · have hb3 : decide (y < z) = true := by simpa using hlt3
          have HO : Hid (Mo.ord a b = -1) := Lib.hid (by unfold Mo.ord; rw [if_neg (by rw [← h1, ← h2]; exact hyz), if_pos (by rw [← h1, ← h2]; exact hlt3)])
          clear h1 h2 hyz
          go_wp2
          go_ret
          exact ⟨by rw [HO.out]; rfl, hdr⟩
        · have hb3 : decide (y < z) = false := by simpa using hlt3
          have HO : Hid (Mo.ord a b = 1) := Lib.hid (by unfold Mo.ord; rw [if_neg (by rw [← h1, ← h2]; exact hyz), if_neg (by rw [← h1, ← h2]; exact hlt3)])
          clear h1 h2 hyz
          go_wp2
          go_ret
          exact ⟨by rw [HO.out]; rfl, hdr⟩
end Go.Proofs.Tg
end
section
/- Walks: the echelon form. -/
namespace Go.Proofs.Tg
open Go.RowKit Go.Gr Go.Ev
set_option maxHeartbeats 2000000
set_option maxRecDepth 100000
/-- The vectors lie in block g; nothing below B has turned. -/
structure VecAt (W0 : World) (base g cap : Nat) (us : List Nat) (w : World) : Prop where
  own : w.ownsRow base 3 1 (.slice (some ⟨g, 0, none⟩) us.length cap) us.length (us.map vn)
  below : Below W0.heap.size W0 w
theorem VecAt.base_le {W0 w : World} {base g cap : Nat} {us : List Nat} (h : VecAt W0 base g cap us w) : base ≤ g := (h.own.lt g rfl).1
theorem VecAt.cell {W0 w : World} {base g cap : Nat} {us : List Nat} (h : VecAt W0 base g cap us w) {j : Nat} (hj : j < us.length) : w.cell? ⟨g, j, none⟩ = some (.int .i64 (us.getD j 0 : Nat)) := by
  rw [h.own.cellAt j (by omega)]
  simp [hj, vn]
theorem VecAt.drewN {W0 w : World} {base g cap : Nat} {us : List Nat} (h : VecAt W0 base g cap us w) (n : Nat) : VecAt W0 base g cap us (w.drewN n) := ⟨h.own, below_drewN h.below n⟩
theorem VecAt.drew {W0 w : World} {base g cap : Nat} {us : List Nat} (h : VecAt W0 base g cap us w) : VecAt W0 base g cap us w.drew := ⟨h.own, h.below.drew⟩
theorem VecAt.put {W0 w : World} {base g cap : Nat} {us : List Nat} (h : VecAt W0 base g cap us w) (hB : W0.heap.size ≤ base) (j x : Nat) : VecAt W0 base g cap (us.set j x) (w.setCell ⟨g, j, none⟩ (.int .i64 (x : Nat))) := by
  have h1 := (h.own.stored j (.int .i64 (x : Nat))).1
  have e : (us.map vn).set j (.int .i64 (x : Nat)) = (us.set j x).map vn := by rw [List.map_set]; rfl
  rw [e] at h1
  refine ⟨by rw [List.length_set]; exact h1, h.below.setCell (Nat.le_trans hB h.base_le) _⟩
end Go.Proofs.Tg
end
section
/- Walks: the parts of a number's text. -/
namespace Go.Proofs.Tg
open Go.RowKit Go.Qn
set_option maxHeartbeats 1000000
set_option maxRecDepth 100000
/-- The parts that a call returns. -/
def RetSplit (l : List UInt8) (w : World) (e : Ending) (w' : World) : Prop :=
  ∃ b num den ok, e = .returned (.tuple #[.agg #[.bool b, .string (bs num), .string (bs den)], .bool ok]) ∧ SplitIs l b num den ok ∧ Below w.heap.size w w'
theorem bs_toList (l : List UInt8) : (bs l).toList = l := by rw [Lib.toList_data, bs_data]
theorem bs_pos {l : List UInt8} (h : l ≠ []) : 0 < (bs l).size := by rw [bs_size]; exact List.length_pos_iff.2 h
theorem split_fin {l num den : List UInt8} {b ok : Bool} {N D : ByteArray} {w w' : World} (hN : bs num = N) (hD : bs den = D) (h : SplitIs l b num den ok) (hb : Below w.heap.size w w') :
    RetSplit l w (.returned (.tuple #[.agg #[.bool b, .string N, .string D], .bool ok])) w' := by
  subst hN hD
  exact ⟨b, num, den, ok, rfl, h, hb⟩
theorem bs_nil : bs [] = ByteArray.empty := rfl
theorem of_head {l : List UInt8} {N : ByteArray} (hN : bs l = N) {h : 0 < N.size} {c : UInt8} (k : (((N[0]).toNat : Int) == (c.toNat : Int)) = true) : l.head? = some c := by
  subst hN
  cases l with
  | nil => exact absurd h (by decide)
  | cons x t =>
    have e : (x.toNat : Int) = (c.toNat : Int) := eq_of_beq k
    have : x = c := UInt8.toNat_inj.1 (by omega)
    rw [this]; rfl
theorem of_not_head {l : List UInt8} {N : ByteArray} (hN : bs l = N) {h : 0 < N.size} {c : UInt8} (k : (((N[0]).toNat : Int) == (c.toNat : Int)) = false) : l.head? ≠ some c := by
  subst hN
  cases l with
  | nil => simp
  | cons x t =>
    have e : ¬ (x.toNat : Int) = (c.toNat : Int) := ne_of_beq_false k
    simp only [List.head?_cons, ne_eq, Option.some.injEq]
    rintro rfl
    exact e rfl
set_option maxHeartbeats 4000000 in
theorem split_any (s : ByteArray) (w : World) (hs : s.size ≤ 64) :
    Calls Tryz.prog 81 #[.string s] w (RetSplit s.data.toList w) := by
  obtain ⟨b, r, hc⟩ : ∃ b r, cut s.data.toList = (b, r) := ⟨_, _, rfl⟩
  have HC : Hid (∀ W, Calls Tryz.prog 117 #[.string s, .string ⟨#[45]⟩] W fun e w' => e = .returned (.tuple #[.string (bs r), .bool b]) ∧ W = w') := Lib.hid (fun W => by
    have := cutp_any s W hs
    rwa [hc] at this)
  have hrl : r.length ≤ 64 := by
    have := (spl_len hc).2
    rw [len_size] at this; omega
  obtain ⟨N, hN⟩ : ∃ N, bs (r.takeWhile isD) = N := ⟨_, rfl⟩
  obtain ⟨R, hR⟩ : ∃ R, bs (r.dropWhile isD) = R := ⟨_, rfl⟩
  have HD : Hid (∀ W, Calls Tryz.prog 118 #[.string (bs r)] W fun e w' => e = .returned (.tuple #[.string N, .string R]) ∧ Below W.heap.size W w') := Lib.hid (fun W => by
    have := digits_any (bs r) W (by rw [bs_size]; exact hrl)
    rwa [bs_data, hN, hR] at this)
  have HN := Lib.hid hN
  have HR := Lib.hid hR
  have Hc := Lib.hid hc
  clear hN hR hc
  go_enter Tryz.func81, Tryz.ntmps81
  go_wp2_with (go_at_call 117; refine (HC.out _).mono ?_; rintro e w' ⟨rfl, rfl⟩)
  with_reducible refine (HD.out _).mono ?_
  rintro e w1 ⟨rfl, hb1⟩
  have B4 : Blk w1 (w.heap.size + 1) 142 #[.bool b, .string ByteArray.empty, .string ByteArray.empty] := by
    have := (Blk.new (w.alloc (.cells #[.bool false, .string ByteArray.empty, .string ByteArray.empty] 142)) 142 #[.bool b, .string ByteArray.empty, .string ByteArray.empty]).keep hb1 (by simp)
    simpa using this
  have B2 : Blk w1 w.heap.size 142 #[.bool false, .string ByteArray.empty, .string ByteArray.empty] :=
    ((Blk.new w 142 #[.bool false, .string ByteArray.empty, .string ByteArray.empty]).alloc _).keep hb1 (by simp; omega)
  have hbw : Below w.heap.size w w1 := (((Below.refl _ _).alloc (Nat.le_refl _) _).alloc (by simp) _).trans (hb1.mono (by simp; omega))
  have hz : w.heap.size + 1 < w1.heap.size := B4.lt
  have HB4 := Lib.hid B4
  have HB2 := Lib.hid B2
  have c0 := B4.cell 0
  have c1 := B4.cell 1
  have c2 := B4.cell 2
  have f0 := B4.frozen 0
  have f1 := B4.frozen 1
  have f2 := B4.frozen 2
  have d0 := B2.cell 0
  have d1 := B2.cell 1
  have d2 := B2.cell 2
  have e0 := B2.frozen 0
  have e1 := B2.frozen 1
  have e2 := B2.frozen 2
  clear hb1 B4 B2
  simp at c0 c1 c2 d0 d1 d2
  go_wp2_with (fail)
  · have t1 : (N.toList == [48]) = true := by assumption
    have t2 : b = true := by assumption
    subst t2
    refine bodyPost_ret (v := .tuple #[.agg #[.bool true, .string N, .string ByteArray.empty], .bool false]) (by simp [results, Tryz.results81, go_sem, d0, d1, d2]) rfl (split_fin HN.out bs_nil (spl_zero Hc.out ?_) ?_)
    · rw [← bs_toList (r.takeWhile isD), HN.out]; simpa using t1
    · exact (((hbw.setCell (by simp) _).setCell (by simp) _).setCell (by simp) _).setCell (by simp) _
  · have t1 : (N.toList == [48]) = true := by assumption
    have t2 : ¬ b = true := by assumption
    obtain rfl : b = false := eq_false_of_ne_true t2
    refine bodyPost_ret (v := .tuple #[.agg #[.bool false, .string N, .string ByteArray.empty], .bool R.toList.isEmpty]) (by simp [results, Tryz.results81, go_sem, d0, d1, d2]) rfl (split_fin HN.out bs_nil ?_ ?_)
    · have := spl_zero Hc.out (by rw [← bs_toList (r.takeWhile isD), HN.out]; simpa using t1)
      rw [← HR.out, bs_toList]
      simpa using this
    · exact (((hbw.setCell (by simp) _).setCell (by simp) _).setCell (by simp) _).setCell (by simp) _
  · have t1 : (N.toList == [48]) = false := by assumption
    have t2 : N.toList = [] := by assumption
    refine bodyPost_ret (v := .tuple #[.agg #[.bool b, .string N, .string ByteArray.empty], .bool false]) (by simp [results, Tryz.results81, go_sem, d0, d1, d2]) rfl (split_fin HN.out bs_nil (spl_bad Hc.out ?_ (.inl ?_)) ?_)
    · rw [← bs_toList (r.takeWhile isD), HN.out]; simpa using t1
    · rw [← bs_toList (r.takeWhile isD), HN.out]; exact t2
    · exact (((hbw.setCell (by simp) _).setCell (by simp) _).setCell (by simp) _).setCell (by simp) _
  · have t1 : (N.toList == [48]) = false := by assumption
    have t3 : ¬ N.toList = [] := by assumption
    have t4 : 0 < N.size := by assumption
    have t2 : N.toList.isEmpty = true ∨ ((N[0].toNat : Int) == 48) = true := by assumption
    refine bodyPost_ret (v := .tuple #[.agg #[.bool b, .string N, .string ByteArray.empty], .bool false]) (by simp [results, Tryz.results81, go_sem, d0, d1, d2]) rfl (split_fin HN.out bs_nil (spl_bad Hc.out ?_ (.inr ?_)) ?_)
    · rw [← bs_toList (r.takeWhile isD), HN.out]; simpa using t1
    · rcases t2 with t2 | t2
      · exact absurd (List.isEmpty_iff.1 t2) t3
      · exact of_head HN.out (c := 48) t2
    · exact (((hbw.setCell (by simp) _).setCell (by simp) _).setCell (by simp) _).setCell (by simp) _
  · have t1 : (N.toList == [48]) = false := by assumption
    have t3 : ¬ N.toList = [] := by assumption
    have t4 : 0 < N.size := by assumption
    have t2 : N.toList.isEmpty = false ∧ ((N[0].toNat : Int) == 48) = false := by assumption
    have t5 : R.toList.isEmpty = true := by assumption
    refine bodyPost_ret (v := .tuple #[.agg #[.bool b, .string N, .string ByteArray.empty], .bool true]) (by simp [results, Tryz.results81, go_sem, d0, d1, d2]) rfl (split_fin HN.out bs_nil (spl_whole Hc.out ?_ ?_ ?_) ?_)
    · rw [← bs_toList (r.takeWhile isD), HN.out]; simpa using t1
    · rintro (h | h)
      · exact t3 (by rw [← HN.out, bs_toList]; exact h)
      · exact of_not_head HN.out (c := 48) t2.2 h
    · rw [← bs_toList (r.dropWhile isD), HR.out]; exact List.isEmpty_iff.1 t5
    · exact (((hbw.setCell (by simp) _).setCell (by simp) _).setCell (by simp) _).setCell (by simp) _
  · have t1 : (N.toList == [48]) = false := by assumption
    have t3 : ¬ N.toList = [] := by assumption
    have t4 : 0 < N.size := by assumption
    have t2 : N.toList.isEmpty = false ∧ ((N[0].toNat : Int) == 48) = false := by assumption
    have t5 : R.toList.isEmpty = false := by assumption
    have t6 : 0 < R.size := by assumption
    have t7 : ((R[0].toNat : Int) != 47) = true := by assumption
    have hR : r.dropWhile isD = R.toList := by rw [← HR.out, bs_toList]
    obtain ⟨c, t, hct⟩ : ∃ c t, r.dropWhile isD = c :: t := by
      cases hh : r.dropWhile isD with
      | nil => rw [hh] at hR; rw [← hR] at t5; cases t5
      | cons c t => exact ⟨c, t, rfl⟩
    refine bodyPost_ret (v := .tuple #[.agg #[.bool b, .string N, .string ByteArray.empty], .bool false]) (by simp [results, Tryz.results81, go_sem, d0, d1, d2]) rfl (split_fin HN.out bs_nil (spl_slash Hc.out ?_ ?_ hct ?_) ?_)
    · rw [← bs_toList (r.takeWhile isD), HN.out]; simpa using t1
    · rintro (h | h)
      · exact t3 (by rw [← HN.out, bs_toList]; exact h)
      · exact of_not_head HN.out (c := 48) t2.2 h
    · have := of_not_head HR.out (c := 47) (h := t6) (by simpa using t7)
      rw [hct] at this
      simpa using this
    · exact (((hbw.setCell (by simp) _).setCell (by simp) _).setCell (by simp) _).setCell (by simp) _
  · have t1 : (N.toList == [48]) = false := by assumption
    have t3 : ¬ N.toList = [] := by assumption
    have t4 : 0 < N.size := by assumption
    have t2 : N.toList.isEmpty = false ∧ ((N[0].toNat : Int) == 48) = false := by assumption
    have t5 : R.toList.isEmpty = false := by assumption
    have t6 : 0 < R.size := by assumption
    have t7 : ((R[0].toNat : Int) != 47) = false := by assumption
    have hR : r.dropWhile isD = R.toList := by rw [← HR.out, bs_toList]
    obtain ⟨t, hct⟩ : ∃ t, r.dropWhile isD = 47 :: t := by
      have := of_head HR.out (c := 47) (h := t6) (by simpa using t7)
      cases hh : r.dropWhile isD with
      | nil => rw [hh] at this; cases this
      | cons c t => rw [hh] at this; injection this with this; subst this; exact ⟨t, rfl⟩
    have hext : R.extract 1 R.size = bs t := by rw [ext_end, ← HR.out, bs_data, hct]; rfl
    have htl : t.length ≤ 64 := by
      have a2 := dw_len isD r
      rw [hct, List.length_cons] at a2
      omega
    obtain ⟨D, hD⟩ : ∃ D, bs (t.takeWhile isD) = D := ⟨_, rfl⟩
    obtain ⟨R2, hR2⟩ : ∃ R, bs (t.dropWhile isD) = R := ⟨_, rfl⟩
    have HD2 : Hid (∀ W, Calls Tryz.prog 118 #[.string (R.extract 1 R.size)] W fun e w' => e = .returned (.tuple #[.string D, .string R2]) ∧ Below W.heap.size W w') := Lib.hid (fun W => by
      have := digits_any (bs t) W (by rw [bs_size]; exact htl)
      rwa [bs_data, hD, hR2, ← hext] at this)
    have HDD := Lib.hid hD
    have HR2 := Lib.hid hR2
    have Hct := Lib.hid hct
    have T1 := Lib.hid t1
    have T2 := Lib.hid t2
    clear hD hR2 hct hR hext t1 t2 t7
    with_reducible refine (HD2.out _).mono ?_
    rintro e w2 ⟨rfl, hb2⟩
    have B4 : Blk w2 (w.heap.size + 1) 142 #[.bool b, .string N, .string ByteArray.empty] := (HB4.out.set 1 (.string N)).keep hb2 (by simp; omega)
    have B2 : Blk w2 w.heap.size 142 #[.bool false, .string ByteArray.empty, .string ByteArray.empty] := (HB2.out.far (p := ⟨w.heap.size + 1, 1, none⟩) (by simp) (.string N)).keep hb2 (by simp; omega)
    have hbw2 : Below w.heap.size w w2 := (hbw.setCell (p := ⟨w.heap.size + 1, 1, none⟩) (by simp) (.string N)).trans (hb2.mono (by simp; omega))
    have hz2 : w.heap.size + 1 < w2.heap.size := B4.lt
    clear c0 c1 c2 d0 d1 d2 e0 e1 e2 f0 f1 f2 hb2 hz HB4 HB2 hbw
    have c0 := B4.cell 0
    have c1 := B4.cell 1
    have c2 := B4.cell 2
    have f0 := B4.frozen 0
    have f1 := B4.frozen 1
    have f2 := B4.frozen 2
    have d0 := B2.cell 0
    have d1 := B2.cell 1
    have d2 := B2.cell 2
    have e0 := B2.frozen 0
    have e1 := B2.frozen 1
    have e2 := B2.frozen 2
    clear B4 B2
    simp at c0 c1 c2 d0 d1 d2
    have fin : ∀ (ok : Bool) (w' : World), (ok = true ↔ t.dropWhile isD = [] ∧ t.takeWhile isD ≠ [] ∧ (t.takeWhile isD).head? ≠ some 48 ∧ t.takeWhile isD ≠ [49]) → Below w.heap.size w w' →
        RetSplit s.data.toList w (.returned (.tuple #[.agg #[.bool b, .string N, .string D], .bool ok])) w' := by
      intro ok w' hok hb
      refine split_fin HN.out HDD.out (spl_den Hc.out ?_ ?_ Hct.out hok) hb
      · rw [← bs_toList (r.takeWhile isD), HN.out]; simpa using T1.out
      · rintro (h | h)
        · exact t3 (by rw [← HN.out, bs_toList]; exact h)
        · exact of_not_head HN.out (c := 48) T2.out.2 h
    have FIN := Lib.hid fin
    clear fin
    have hRl : R2.toList = t.dropWhile isD := by rw [← HR2.out, bs_toList]
    have hDl : D.toList = t.takeWhile isD := by rw [← HDD.out, bs_toList]
    have HRl := Lib.hid hRl
    have HDl := Lib.hid hDl
    clear hRl hDl
    go_wp2
    by_cases r2 : R2.toList.isEmpty = true
    · have r2' : R2.toList = [] := List.isEmpty_iff.1 r2
      by_cases r3 : D.toList.isEmpty = true
      · have r3' : D.toList = [] := List.isEmpty_iff.1 r3
        go_region
        all_goals
          try go_wp2
          refine bodyPost_ret (v := .tuple #[.agg #[.bool b, .string N, .string D], .bool false]) (by simp [results, Tryz.results81, go_sem, d0, d1, d2]) rfl (FIN.out _ _ ?_ ?_)
          · rw [← HRl.out, ← HDl.out, r3']; simp
          · exact below_drewN ((((hbw2.setCell (by simp) _).setCell (by simp) _).setCell (by simp) _).setCell (by simp) _) 1
      · have r3 : D.toList.isEmpty = false := eq_false_of_ne_true r3
        have r3' : ¬ D.toList = [] := fun e => by rw [e] at r3; cases r3
        have r4 : 0 < D.size := by
          rw [← HDD.out]; exact bs_pos (fun e => r3' (by rw [HDl.out]; exact e))
        by_cases r5 : ((D[0].toNat : Int) != 48) = true
        · have r5' : (t.takeWhile isD).head? ≠ some 48 := of_not_head HDD.out (c := 48) (h := r4) (by simpa using r5)
          have R5 := Lib.hid r5'
          clear r5'
          by_cases r6 : (D.toList != [49]) = true
          · skip
            go_region
            all_goals
              try go_wp2
              refine bodyPost_ret (v := .tuple #[.agg #[.bool b, .string N, .string D], .bool true]) (by simp [results, Tryz.results81, go_sem, d0, d1, d2]; simpa using r6) rfl (FIN.out _ _ ?_ ?_)
              · rw [← HRl.out, ← HDl.out]; exact iff_of_true rfl ⟨r2', r3', by rw [HDl.out]; exact R5.out, by simpa using r6⟩
              · exact below_drewN ((((hbw2.setCell (by simp) _).setCell (by simp) _).setCell (by simp) _).setCell (by simp) _) 1
          · have r6 : (D.toList != [49]) = false := eq_false_of_ne_true r6
            go_region
            all_goals
              try go_wp2
              refine bodyPost_ret (v := .tuple #[.agg #[.bool b, .string N, .string D], .bool false]) (by simp [results, Tryz.results81, go_sem, d0, d1, d2]; simpa using r6) rfl (FIN.out _ _ ?_ ?_)
              · rw [← HRl.out, ← HDl.out]; exact iff_of_false (by decide) (fun h => h.2.2.2 (by simpa using r6))
              · exact below_drewN ((((hbw2.setCell (by simp) _).setCell (by simp) _).setCell (by simp) _).setCell (by simp) _) 1
        · have r5 : ((D[0].toNat : Int) != 48) = false := eq_false_of_ne_true r5
          have r5' : (t.takeWhile isD).head? = some 48 := of_head HDD.out (c := 48) (h := r4) (by simpa using r5)
          have R5 := Lib.hid r5'
          clear r5'
          go_region
          all_goals
            try go_wp2
            refine bodyPost_ret (v := .tuple #[.agg #[.bool b, .string N, .string D], .bool false]) (by simp [results, Tryz.results81, go_sem, d0, d1, d2]) rfl (FIN.out _ _ ?_ ?_)
            · rw [← HRl.out, ← HDl.out]; exact iff_of_false (by decide) (fun h => h.2.2.1 (by rw [HDl.out]; exact R5.out))
            · exact below_drewN ((((hbw2.setCell (by simp) _).setCell (by simp) _).setCell (by simp) _).setCell (by simp) _) 1
    · have r2 : R2.toList.isEmpty = false := eq_false_of_ne_true r2
      have r2' : ¬ R2.toList = [] := fun e => by rw [e] at r2; cases r2
      go_region
      all_goals
        try go_wp2
        refine bodyPost_ret (v := .tuple #[.agg #[.bool b, .string N, .string D], .bool false]) (by simp [results, Tryz.results81, go_sem, d0, d1, d2]) rfl (FIN.out _ _ ?_ ?_)
        · rw [← HRl.out]; simp [r2']
        · exact below_drewN ((((hbw2.setCell (by simp) _).setCell (by simp) _).setCell (by simp) _).setCell (by simp) _) 1
  · have t5 : R.toList.isEmpty = false := by assumption
    have t6 : ¬ 0 < R.size := by assumption
    have hR : r.dropWhile isD = R.toList := by rw [← HR.out, bs_toList]
    have : R.size = (r.dropWhile isD).length := by rw [← HR.out, bs_size]
    have h0 : r.dropWhile isD = [] := List.eq_nil_of_length_eq_zero (by omega)
    rw [← hR, h0] at t5; cases t5
  · have t5 : ¬ N.toList = [] := by assumption
    have t6 : ¬ 0 < N.size := by assumption
    have hR : r.takeWhile isD = N.toList := by rw [← HN.out, bs_toList]
    have : N.size = (r.takeWhile isD).length := by rw [← HN.out, bs_size]
    have h0 : r.takeWhile isD = [] := List.eq_nil_of_length_eq_zero (by omega)
    exact absurd (hR.symm.trans h0) t5
end Go.Proofs.Tg
end
