/- Parts of the proof: IX1, FI2. -/
import Derived.Deep.AppendSrc
import Derived.Lib.ItoaWalk
import Derived.CellFam
import Derived.Lib.ItoaLen
import Derived.Test.YtpkompfkhoceoaaGreatDoorMMV3
import Derived.Test.YtpkompfkhoceoaaGreatDoorMMV4
import Derived.Test.YtpkompfkhoceoaaGreatDoorMMV5
import Derived.Test.YtpkompfkhoceoaaGreatDoorMMV14
import Derived.Test.YtpkompfkhoceoaaGreatDoorMMV20
section
/- The reference's number of monomials, and a monomial's number in the order. -/
namespace Go.Proofs.Tg
open Go.RowKit Go.Mm Go.Mo
set_option maxHeartbeats 8000000
set_option maxRecDepth 100000
theorem rcount_any (n d : Nat) (hn : n ≤ 6) (hd : d ≤ 24) (w : World) :
    Calls Tryz.prog 63 #[.int .i64 (n : Nat), .int .i64 (d : Nat)] w fun e w' => e = .returned (.tuple #[.int .i64 (cnt n d : Nat), .bool true]) ∧ Below w.heap.size w w' := by
  have HC := Lib.hid (fun k (h : k ≤ 6) => cnt_fit (n := k) h hd)
  have H0 : Hid ((1 : Nat) = cnt 0 d) := Lib.hid (cnt_zero d).symm
  have d1 : decide ((n : Int) < 0) = false := decide_eq_false (by omega)
  have d2 : decide ((6 : Int) < (n : Int)) = false := decide_eq_false (by omega)
  have d3 : decide ((d : Int) < 0) = false := decide_eq_false (by omega)
  have d4 : decide ((24 : Int) < (d : Int)) = false := decide_eq_false (by omega)
  have d2' : decide (6 < n) = false := decide_eq_false (by omega)
  have d4' : decide (24 < d) = false := decide_eq_false (by omega)
  go_enter Tryz.func63, Tryz.ntmps63
  go_wp2
  go_loopw [6, 7] (fun s6 s7 wr => ∃ (k r : Nat), s7 = .int .i64 ((k : Int) + 1) ∧ s6 = .int .i64 (r : Nat) ∧ k ≤ n ∧ r ≤ 244140625 ∧ Hid (r = cnt k d) ∧ Below w.heap.size w wr) (fun _ s7 _ => n + 1 - (intOf s7).toNat)
  case atStart => exact ⟨0, 1, by go_num, rfl, Nat.zero_le _, by omega, H0, Below.refl _ _⟩
  case round =>
    obtain ⟨wo, rfl⟩ : ∃ wo : World, wo = wr := ⟨_, rfl⟩
    obtain ⟨k, r, rfl, rfl, hk, hr, HR, hbw⟩ := hrel
    by_cases hkn : k = n
    · have hd1 : decide ((k : Int) + 1 ≤ (n : Int)) = false := decide_eq_false (by omega)
      have HK := Lib.hid hkn
      clear hkn
      go_wp2
      go_ret2
      exact ⟨by rw [← HK.out, ← HR.out]; rfl, hbw⟩
    · have hkn2 : k < n := by omega
      have hd1 : decide ((k : Int) + 1 ≤ (n : Int)) = true := decide_eq_true (by omega)
      obtain ⟨q, hq⟩ : ∃ q, r * (d + (k + 1)) / (k + 1) = q := ⟨_, rfl⟩
      have HQ : Hid (q = cnt (k + 1) d) := Lib.hid (by rw [← hq, HR.out, cnt_step])
      have hql : q ≤ 244140625 := by rw [HQ.out]; exact HC.out _ (by omega)
      have hpr : r * (d + (k + 1)) ≤ 244140625 * 30 := Nat.mul_le_mul hr (by omega)
      obtain ⟨pr, hpe⟩ : ∃ pr, r * (d + (k + 1)) = pr := ⟨_, rfl⟩
      rw [hpe] at hq hpr
      have e1 : (r : Int) * ((d : Int) + ((k : Int) + 1)) = (pr : Int) := by
        rw [← hpe]; simp
      have w2 : IntKind.i64.wrap (pr : Int) = (pr : Int) := IntWalk.i64_in _ (by omega)
      have w4 : IntKind.i64.wrap ((d : Int) + ((k : Int) + 1)) = (d : Int) + ((k : Int) + 1) := IntWalk.i64_in _ (by omega)
      have e2 : Int.tdiv (pr : Int) ((k : Int) + 1) = (q : Int) := by
        rw [show (k : Int) + 1 = ((k + 1 : Nat) : Int) by omega, ← Int.ofNat_tdiv, hq]
      have w3 : IntKind.i64.wrap (q : Int) = (q : Int) := IntWalk.i64_in _ (by omega)
      have nz : (((k : Int) + 1) == 0) = false := beq_eq_false_iff_ne.2 (by omega)
      clear hpe hq hkn
      go_wp2
      go_roundw
      case rel => exact ⟨k + 1, q, by go_num, rfl, by omega, hql, HQ, hbw⟩
      case measure => simp [intOf]; omega
theorem rcnt1_any (n d : Nat) (hn : n + 1 ≤ 6) (hd : d ≤ 24) (w : World) :
    Calls Tryz.prog 129 #[.int .i64 ((n : Int) + 1), .int .i64 (d : Nat)] w fun e w' => e = .returned (.int .i64 (cnt n d : Nat)) ∧ Below w.heap.size w w' := by
  have H := Lib.hid (fun V => rcount_any n d (by omega) hd V)
  have w1 : IntKind.i64.wrap ((n : Int) + 1 - 1) = (n : Int) := by rw [show (n : Int) + 1 - 1 = (n : Int) by omega]; exact IntWalk.i64_in _ (by omega)
  generalize cnt n d = z at *
  go_enter Tryz.func129, Tryz.ntmps129
  go_wp2_with (go_at_call 63; refine (H.out _).mono ?_; rintro e w2 ⟨rfl, hb⟩)
  go_ret
  exact ⟨rfl, hb⟩
theorem mindex_any (M : Option Addr) (cm : Nat) (m : List Int) (v d : Nat) (w : World) (hM : Ints w M m) (hm : m ∈ mons v d) (hv1 : 1 ≤ v) (hv : v ≤ 6) (hd : d ≤ 24) :
    Calls Tryz.prog 99 #[.slice M v cm] w fun e w' => e = .returned (.tuple #[.int .i64 (rank m : Nat), .bool true]) ∧ Below w.heap.size w w' := by
  have hl := (mons_mem hm).1
  have hvd : vldM m = true := vldM_iff.2 ⟨by rw [hl]; exact hv, fun x hx => ((mons_mem hm).2 x hx).1, by have := (mons_sum hm).2; omega⟩
  have hs := mons_sum hm
  obtain ⟨D, hD⟩ : ∃ D : Nat, m.sum = (D : Int) := ⟨m.sum.toNat, by omega⟩
  have hDd : D ≤ 24 := by omega
  have HVL : Hid (∀ V, Below w.heap.size w V → Calls Tryz.prog 127 #[.slice M v cm] V fun e w' => e = .returned (.bool true) ∧ V = w') := Lib.hid (fun V hb => by
    have h := rvalid_any M cm m V (hM.keep hb) (by omega)
    rw [hl, hvd] at h
    exact h)
  have HDG : Hid (∀ V, Below w.heap.size w V → Calls Tryz.prog 128 #[.slice M v cm] V fun e w' => e = .returned (.int .i64 (D : Nat)) ∧ V = w') := Lib.hid (fun V hb => by
    have h := rdeg_any M cm m V (hM.keep hb) (by omega)
    unfold degM at h
    rw [hl, if_pos hvd, hD] at h
    exact h)
  have HRK : Hid (rank m ≤ 244140625) := Lib.hid (Nat.le_trans (rank_le hm) (cnt_fit hv hd))
  have HST : Hid ((monTo v D).length + pos m v = rank m ∧ (m.take v).sum = (D : Int)) := Lib.hid (by
    refine ⟨?_, by rw [List.take_of_length_le (by omega), hD]⟩
    unfold rank
    rw [hl, show m.sum.toNat = D by omega])
  have HNN : Hid (∀ x ∈ m, 0 ≤ x) := Lib.hid (fun x hx => ((mons_mem hm).2 x hx).1)
  have HM := Lib.hid hM
  have HL := Lib.hid hl
  have HC1 : Hid (0 < D → ∀ V, Calls Tryz.prog 63 #[.int .i64 (v : Nat), .int .i64 ((D - 1 : Nat) : Int)] V fun e w' => ∃ o : Nat, o = (monTo v D).length ∧ e = .returned (.tuple #[.int .i64 (o : Nat), .bool true]) ∧ Below V.heap.size V w') := Lib.hid (fun h0 V => by
    refine (rcount_any v (D - 1) hv (by omega) V).mono ?_
    rintro e w' ⟨rfl, hb⟩
    refine ⟨cnt v (D - 1), ?_, rfl, hb⟩
    have := monTo_all v (D - 1)
    rw [show D - 1 + 1 = D by omega] at this
    rw [this]; rfl)
  have HC2 : Hid (∀ (k q : Nat), 1 ≤ k → k ≤ 6 → q ≤ 24 → ∀ V, Calls Tryz.prog 129 #[.int .i64 (k : Nat), .int .i64 (q : Nat)] V fun e w' => ∃ z : Nat, (monTo k (q + 1)).length = (monTo k q).length + z ∧ e = .returned (.int .i64 (z : Nat)) ∧ Below V.heap.size V w') := Lib.hid (fun k q h1 h6 hq V => by
    obtain ⟨k', rfl⟩ : ∃ k', k = k' + 1 := ⟨k - 1, by omega⟩
    refine (rcnt1_any k' q h6 hq V).mono ?_
    rintro e w' ⟨rfl, hb⟩
    exact ⟨cnt k' q, monTo_step k' q, rfl, hb⟩)
  clear hM hm hvd hs hD hl hd
  go_enter Tryz.func99, Tryz.ntmps99
  go_upto_region 5 with (first
    | (go_at_call 127; refine (HVL.out _ (Below.refl _ _)).mono ?_; rintro e w2 ⟨rfl, rfl⟩)
    | (go_at_call 128; refine (HDG.out _ (Below.refl _ _)).mono ?_; rintro e w2 ⟨rfl, rfl⟩))
  rcases Nat.eq_zero_or_pos D with hD0 | hD0
  · have e0 : decide ((0 : Int) < (D : Int)) = false := decide_eq_false (by omega)
    have e0' : decide (0 < D) = false := decide_eq_false (by omega)
    have HO : Hid (0 = (monTo v D).length) := Lib.hid (by rw [hD0]; rfl)
    clear hD0
    go_upto_region 7 with (fail)
    go_wp2
    go_loopw [5, 4, 6] (fun s5 s4 s6 wr => ∃ (o D n : Nat), s5 = .int .i64 (o : Nat) ∧ s4 = .int .i64 (D : Nat) ∧ s6 = .int .i64 (n : Nat) ∧ 1 ≤ n ∧ n ≤ v ∧ D ≤ 24 ∧ o ≤ 244140625 ∧ Hid (o + pos m n = rank m ∧ (m.take n).sum = (D : Int)) ∧ Hid (Below w.heap.size w wr)) (fun _ _ s6 _ => (intOf s6).toNat)
    case atStart => exact ⟨0, D, v, rfl, rfl, rfl, hv1, Nat.le_refl _, hDd, by omega, Lib.hid ⟨by rw [HO.out]; exact HST.out.1, HST.out.2⟩, Lib.hid (Below.refl _ _)⟩
    case round =>
      clear HO e0 e0' HC1 HDG HVL HST
      obtain ⟨wo, rfl⟩ : ∃ wo : World, wo = wr := ⟨_, rfl⟩
      obtain ⟨o, D, n, rfl, rfl, rfl, hn1, hnv, hDd, ho, HI, HB⟩ := hrel
      by_cases hn2 : 1 < n
      · have e1 : decide ((1 : Int) < (n : Int)) = true := decide_eq_true (by omega)
        have e1' : decide (1 < n) = true := decide_eq_true hn2
        obtain ⟨k, hk⟩ : ∃ k, n = k + 1 := ⟨n - 1, by omega⟩
        have wn : IntKind.i64.wrap ((n : Int) - 1) = (k : Int) := (IntWalk.i64_in _ (by omega)).trans (by omega)
        have wn' : (n : Int) - 1 = (k : Int) := by omega
        have hkm : k < m.length := by have := HL.out; omega
        obtain ⟨ad, hAD, hc⟩ := Ints.at (HM.out.keep HB.out) hkm
        subst hAD
        obtain ⟨x, hx⟩ : ∃ x : Nat, m[k] = (x : Int) := ⟨m[k].toNat, by have := HNN.out m[k] (List.getElem_mem _); omega⟩
        have hsum := sum_take_succ m k hkm
        have hnn := sum_nonneg (m.take k) (fun e he => HNN.out e (List.mem_of_mem_take he))
        obtain ⟨j, hj⟩ : ∃ j : Nat, (m.take k).sum = (j : Int) := ⟨(m.take k).sum.toNat, by omega⟩
        have hDj : D = j + x := by
          have h2 := HI.out.2
          rw [hk, hsum, hx, hj] at h2
          omega
        have HI2 : Hid (o + ((monTo k j).length + pos m k) = rank m) := Lib.hid (by
          have h1 := HI.out.1
          rw [hk, pos_succ, hj] at h1
          simpa using h1)
        have HJ : Hid ((m.take k).sum = (j : Int)) := Lib.hid hj
        have HX : Hid (m[k] = (x : Int)) := Lib.hid hx
        rw [hx] at hc
        have q1 : (0 : Int) ≤ (k : Int) := by omega
        have q2 : (k : Int) < (v : Int) := by omega
        have wx : IntKind.i64.wrap ((x : Int) + 1) = (x : Int) + 1 := IntWalk.i64_in _ (by omega)
        have hk1 : 1 ≤ k := by omega
        have hkv : k < v := by omega
        have hj24 : j ≤ 24 := by omega
        have HDJ := Lib.hid hDj
        have hxD : x ≤ D := by omega
        have wd : IntKind.i64.wrap ((D : Int) - (x : Int)) = (j : Int) := (IntWalk.i64_in _ (by omega)).trans (by omega)
        have wd' : (D : Int) - (x : Int) = (j : Int) := by omega
        clear hsum hnn hj hx HI hk hn2 hDj
        go_wp2
        go_loopw [5, 7] (fun s5 s7 wr => ∃ (o e : Nat), s5 = .int .i64 (o : Nat) ∧ s7 = .int .i64 (e : Nat) ∧ x + 1 ≤ e ∧ e ≤ D + 1 ∧ o ≤ 244140625 ∧ Hid (o + ((monTo k (D + 1 - e)).length + pos m k) = rank m) ∧ Hid (Below w.heap.size w wr)) (fun _ s7 _ => D + 1 - (intOf s7).toNat)
        case atStart => exact ⟨o, x + 1, rfl, by go_num, Nat.le_refl _, by omega, ho, Lib.hid (by rw [show D + 1 - (x + 1) = j by have := HDJ.out; omega]; exact HI2.out), HB⟩
        case round =>
          clear HI2 hc
          obtain ⟨wi, rfl⟩ : ∃ wi : World, wi = wr := ⟨_, rfl⟩
          obtain ⟨o2, e, rfl, rfl, he1, he2, ho2, HI3, HB3⟩ := hrel
          by_cases heD : e ≤ D
          · have f1 : decide ((e : Int) ≤ (D : Int)) = true := decide_eq_true (by omega)
            have f1' : decide (e ≤ D) = true := decide_eq_true heD
            obtain ⟨q, hq⟩ : ∃ q, D = e + q := ⟨D - e, by omega⟩
            have we : IntKind.i64.wrap ((D : Int) - (e : Int)) = (q : Int) := (IntWalk.i64_in _ (by omega)).trans (by omega)
            have we' : (D : Int) - (e : Int) = (q : Int) := by omega
            have HCC := Lib.hid (HC2.out k q hk1 (by omega) (by omega))
            have HQ : Hid (D + 1 - e = q + 1 ∧ D + 1 - (e + 1) = q) := Lib.hid (by omega)
            have hmq : e + 1 ≤ D + 1 := by omega
            clear hq heD
            go_wp2_with (go_at_call 129; refine (HCC.out _).mono ?_; rintro e5 w5 ⟨z, hz, rfl, hb5⟩; have HZ := Lib.hid hz; have HB5 := Lib.hid (below_all HB3.out hb5); have HI4 : Hid ((o2 + z) + ((monTo k (D + 1 - (e + 1))).length + pos m k) = rank m) := Lib.hid (by
              have h1 := HI3.out
              rw [HQ.out.1, hz] at h1
              rw [HQ.out.2]; omega); have hoz : o2 + z ≤ 244140625 := (by have h1 := HI4.out; have h2 := HRK.out; omega); clear hz hb5)
            go_roundw
            case rel => exact ⟨o2 + z, e + 1, by go_num, by go_num, by omega, hmq, hoz, HI4, HB5⟩
            case measure => simp [intOf]; omega
          · obtain rfl : e = D + 1 := by omega
            have f1 : decide (((D + 1 : Nat) : Int) ≤ (D : Int)) = false := decide_eq_false (by omega)
            have f1' : decide (D + 1 ≤ D) = false := decide_eq_false (by omega)
            have f1'' : decide ((D : Int) + 1 ≤ (D : Int)) = false := decide_eq_false (by omega)
            have HI5 : Hid (o2 + pos m k = rank m) := Lib.hid (by
              have h1 := HI3.out
              rw [Nat.sub_self] at h1
              simpa [monTo_zero] using h1)
            obtain ⟨ad2, hAD2, hc⟩ := Ints.at (HM.out.keep HB3.out) hkm
            injection hAD2 with hAD2
            subst hAD2
            rw [HX.out] at hc
            have hjD : j ≤ 24 := hj24
            go_wp2
            go_roundw
            case rel => exact ⟨o2, j, k, rfl, by go_num, by go_num, hk1, by omega, hjD, ho2, Lib.hid ⟨HI5.out, HJ.out⟩, HB3⟩
            case measure => simp [intOf]; omega
      · obtain rfl : n = 1 := by omega
        have e1 : decide ((1 : Int) < ((1 : Nat) : Int)) = false := decide_eq_false (by omega)
        have HR : Hid (o = rank m) := Lib.hid (by have h1 := HI.out.1; rw [pos_one] at h1; omega)
        clear HI
        go_wp2
        go_ret2
        exact ⟨by rw [← HR.out]; rfl, HB.out⟩
  · have e0 : decide ((0 : Int) < (D : Int)) = true := decide_eq_true (by omega)
    have e0' : decide (0 < D) = true := decide_eq_true hD0
    have wD : IntKind.i64.wrap ((D : Int) - 1) = ((D - 1 : Nat) : Int) := (IntWalk.i64_in _ (by omega)).trans (by omega)
    have HC3 := Lib.hid (HC1.out hD0)
    clear hD0
    go_upto_region 7 with (go_at_call 63; refine (HC3.out _).mono ?_; rintro e w2 ⟨o, ho, rfl, hb2⟩; have HO := Lib.hid ho; clear ho)
    go_wp2
    go_loopw [5, 4, 6] (fun s5 s4 s6 wr => ∃ (o D n : Nat), s5 = .int .i64 (o : Nat) ∧ s4 = .int .i64 (D : Nat) ∧ s6 = .int .i64 (n : Nat) ∧ 1 ≤ n ∧ n ≤ v ∧ D ≤ 24 ∧ o ≤ 244140625 ∧ Hid (o + pos m n = rank m ∧ (m.take n).sum = (D : Int)) ∧ Hid (Below w.heap.size w wr)) (fun _ _ s6 _ => (intOf s6).toNat)
    case atStart => exact ⟨o, D, v, rfl, rfl, rfl, hv1, Nat.le_refl _, hDd, by have h1 := HST.out.1; have h2 := HRK.out; have h3 := HO.out; omega, Lib.hid ⟨by rw [HO.out]; exact HST.out.1, HST.out.2⟩, Lib.hid hb2⟩
    case round =>
      clear HC3 e0 e0' wD HO hb2 HC1 HDG HVL HST
      obtain ⟨wo, rfl⟩ : ∃ wo : World, wo = wr := ⟨_, rfl⟩
      obtain ⟨o, D, n, rfl, rfl, rfl, hn1, hnv, hDd, ho, HI, HB⟩ := hrel
      by_cases hn2 : 1 < n
      · have e1 : decide ((1 : Int) < (n : Int)) = true := decide_eq_true (by omega)
        have e1' : decide (1 < n) = true := decide_eq_true hn2
        obtain ⟨k, hk⟩ : ∃ k, n = k + 1 := ⟨n - 1, by omega⟩
        have wn : IntKind.i64.wrap ((n : Int) - 1) = (k : Int) := (IntWalk.i64_in _ (by omega)).trans (by omega)
        have wn' : (n : Int) - 1 = (k : Int) := by omega
        have hkm : k < m.length := by have := HL.out; omega
        obtain ⟨ad, hAD, hc⟩ := Ints.at (HM.out.keep HB.out) hkm
        subst hAD
        obtain ⟨x, hx⟩ : ∃ x : Nat, m[k] = (x : Int) := ⟨m[k].toNat, by have := HNN.out m[k] (List.getElem_mem _); omega⟩
        have hsum := sum_take_succ m k hkm
        have hnn := sum_nonneg (m.take k) (fun e he => HNN.out e (List.mem_of_mem_take he))
        obtain ⟨j, hj⟩ : ∃ j : Nat, (m.take k).sum = (j : Int) := ⟨(m.take k).sum.toNat, by omega⟩
        have hDj : D = j + x := by
          have h2 := HI.out.2
          rw [hk, hsum, hx, hj] at h2
          omega
        have HI2 : Hid (o + ((monTo k j).length + pos m k) = rank m) := Lib.hid (by
          have h1 := HI.out.1
          rw [hk, pos_succ, hj] at h1
          simpa using h1)
        have HJ : Hid ((m.take k).sum = (j : Int)) := Lib.hid hj
        have HX : Hid (m[k] = (x : Int)) := Lib.hid hx
        rw [hx] at hc
        have q1 : (0 : Int) ≤ (k : Int) := by omega
        have q2 : (k : Int) < (v : Int) := by omega
        have wx : IntKind.i64.wrap ((x : Int) + 1) = (x : Int) + 1 := IntWalk.i64_in _ (by omega)
        have hk1 : 1 ≤ k := by omega
        have hkv : k < v := by omega
        have hj24 : j ≤ 24 := by omega
        have HDJ := Lib.hid hDj
        have hxD : x ≤ D := by omega
        have wd : IntKind.i64.wrap ((D : Int) - (x : Int)) = (j : Int) := (IntWalk.i64_in _ (by omega)).trans (by omega)
        have wd' : (D : Int) - (x : Int) = (j : Int) := by omega
        clear hsum hnn hj hx HI hk hn2 hDj
        go_wp2
        go_loopw [5, 7] (fun s5 s7 wr => ∃ (o e : Nat), s5 = .int .i64 (o : Nat) ∧ s7 = .int .i64 (e : Nat) ∧ x + 1 ≤ e ∧ e ≤ D + 1 ∧ o ≤ 244140625 ∧ Hid (o + ((monTo k (D + 1 - e)).length + pos m k) = rank m) ∧ Hid (Below w.heap.size w wr)) (fun _ s7 _ => D + 1 - (intOf s7).toNat)
        case atStart => exact ⟨o, x + 1, rfl, by go_num, Nat.le_refl _, by omega, ho, Lib.hid (by rw [show D + 1 - (x + 1) = j by have := HDJ.out; omega]; exact HI2.out), HB⟩
        case round =>
          clear HI2 hc
          obtain ⟨wi, rfl⟩ : ∃ wi : World, wi = wr := ⟨_, rfl⟩
          obtain ⟨o2, e, rfl, rfl, he1, he2, ho2, HI3, HB3⟩ := hrel
          by_cases heD : e ≤ D
          · have f1 : decide ((e : Int) ≤ (D : Int)) = true := decide_eq_true (by omega)
            have f1' : decide (e ≤ D) = true := decide_eq_true heD
            obtain ⟨q, hq⟩ : ∃ q, D = e + q := ⟨D - e, by omega⟩
            have we : IntKind.i64.wrap ((D : Int) - (e : Int)) = (q : Int) := (IntWalk.i64_in _ (by omega)).trans (by omega)
            have we' : (D : Int) - (e : Int) = (q : Int) := by omega
            have HCC := Lib.hid (HC2.out k q hk1 (by omega) (by omega))
            have HQ : Hid (D + 1 - e = q + 1 ∧ D + 1 - (e + 1) = q) := Lib.hid (by omega)
            have hmq : e + 1 ≤ D + 1 := by omega
            clear hq heD
            go_wp2_with (go_at_call 129; refine (HCC.out _).mono ?_; rintro e5 w5 ⟨z, hz, rfl, hb5⟩; have HZ := Lib.hid hz; have HB5 := Lib.hid (below_all HB3.out hb5); have HI4 : Hid ((o2 + z) + ((monTo k (D + 1 - (e + 1))).length + pos m k) = rank m) := Lib.hid (by
              have h1 := HI3.out
              rw [HQ.out.1, hz] at h1
              rw [HQ.out.2]; omega); have hoz : o2 + z ≤ 244140625 := (by have h1 := HI4.out; have h2 := HRK.out; omega); clear hz hb5)
            go_roundw
            case rel => exact ⟨o2 + z, e + 1, by go_num, by go_num, by omega, hmq, hoz, HI4, HB5⟩
            case measure => simp [intOf]; omega
          · obtain rfl : e = D + 1 := by omega
            have f1 : decide (((D + 1 : Nat) : Int) ≤ (D : Int)) = false := decide_eq_false (by omega)
            have f1' : decide (D + 1 ≤ D) = false := decide_eq_false (by omega)
            have f1'' : decide ((D : Int) + 1 ≤ (D : Int)) = false := decide_eq_false (by omega)
            have HI5 : Hid (o2 + pos m k = rank m) := Lib.hid (by
              have h1 := HI3.out
              rw [Nat.sub_self] at h1
              simpa [monTo_zero] using h1)
            obtain ⟨ad2, hAD2, hc⟩ := Ints.at (HM.out.keep HB3.out) hkm
            injection hAD2 with hAD2
            subst hAD2
            rw [HX.out] at hc
            have hjD : j ≤ 24 := hj24
            go_wp2
            go_roundw
            case rel => exact ⟨o2, j, k, rfl, by go_num, by go_num, hk1, by omega, hjD, ho2, Lib.hid ⟨HI5.out, HJ.out⟩, HB3⟩
            case measure => simp [intOf]; omega
      · obtain rfl : n = 1 := by omega
        have e1 : decide ((1 : Int) < ((1 : Nat) : Int)) = false := decide_eq_false (by omega)
        have HR : Hid (o = rank m) := Lib.hid (by have h1 := HI.out.1; rw [pos_one] at h1; omega)
        clear HI
        go_wp2
        go_ret2
        exact ⟨by rw [← HR.out]; rfl, HB.out⟩
end Go.Proofs.Tg
end
section
/- The library's AppendInt onto a buffer that lies in an array of the caller's. -/
namespace Go.Proofs.Tg.Fi
open Go.RowKit Go.Rq Go.Qn Go.Lib Go.Sort Go.Proofs.Tg
set_option maxHeartbeats 6400000
set_option maxRecDepth 100000
/-- Block g, of N cells, begins with the cells xs. -/
structure Buf (w : World) (g : Nat) (t : TypeId) (N : Nat) (xs : List Value) : Prop where
  ex : ∃ cs : Array Value, Blk w g t cs ∧ cs.size = N ∧ cs.toList.take xs.length = xs
theorem Buf.keep {w w' : World} {g N : Nat} {t : TypeId} {xs : List Value} (h : Buf w g t N xs) (hb : Below w.heap.size w w') : Buf w' g t N xs := by
  obtain ⟨cs, B, r⟩ := h.ex
  exact ⟨cs, B.keep hb B.lt, r⟩
theorem Buf.lt {w : World} {g N : Nat} {t : TypeId} {xs : List Value} (h : Buf w g t N xs) : g < w.heap.size := by
  obtain ⟨cs, B, r⟩ := h.ex
  exact B.lt
theorem Buf.room {w : World} {g N : Nat} {t : TypeId} {xs : List Value} (h : Buf w g t N xs) {j : Nat} (hj : j < N) : (w.cell? ⟨g, j, none⟩).isSome = true ∧ w.frozen? ⟨g, j, none⟩ = false := by
  obtain ⟨cs, B, hs, _⟩ := h.ex
  refine ⟨?_, B.frozen j⟩
  rw [B.cell j]
  simp; omega
theorem blk_setCells {g : Nat} {t : TypeId} : ∀ (news : List Value) (o : Nat) (w : World) (cs : Array Value), Blk w g t cs → o + news.length ≤ cs.size → ∃ cs', Blk (w.setCells g o news) g t cs' ∧ cs'.size = cs.size ∧ cs'.toList.take (o + news.length) = cs.toList.take o ++ news
  | [], o, w, cs, h, ho => ⟨cs, h, rfl, by simp⟩
  | v :: r, o, w, cs, h, ho => by
    have h1 := h.set o v
    obtain ⟨cs', B, hs, ht⟩ := blk_setCells r (o + 1) _ _ h1 (by simp at ho ⊢; omega)
    refine ⟨cs', B, by rw [hs]; simp, ?_⟩
    rw [List.length_cons, show o + (r.length + 1) = o + 1 + r.length by omega, ht]
    have ho2 : o < cs.toList.length := by simp at ho ⊢; omega
    rw [show (cs.setIfInBounds o v).toList = cs.toList.set o v by simp, List.take_succ_eq_append_getElem (by simpa using ho2)]
    simp [List.take_set_of_le]
theorem tk_setCells (g : Nat) : ∀ (news : List Value) (o : Nat) (w : World), Tk g w (w.setCells g o news)
  | [], _, w => Tk.refl g w
  | v :: r, o, w => (Tk.set g w o v).trans (tk_setCells g r (o + 1) _)
theorem wpList_append_run {P : Program} (w : World) {ops : Array Oper} {rest : List Oper} {o : Oper} {a : Act} {Q : Exit → Act → World → Prop} (hgd : o.guard = none) (s x : Operand) (t tx : TypeId)
    (ho : o.op = .call { callee := .builtin .append, args := #[s, x], argTypes := #[t, tx] }) (v' : Value) (w' : World)
    (hr : (Builtin.append_ #[t, tx] o.type #[a.eval s, a.eval x]).run P w = .ok v' w') (h : wpList P ops Q rest (a.put o.dst v') w') : wpList P ops Q (o :: rest) a w := by
  refine wpList_plain hgd fun K hK => ?_
  unfold Oper.wp execOp
  simp only [ho, resolve, invoke, builtin, Sem.run_bind, Sem.run_pure, Result.andThen_ok, List.map_toArray, List.map_cons, List.map_nil, hr]
  exact hK _ _ h
theorem byte_info : (Tryz.prog.info? 5).map (fun i => (i.zero, i.size, i.bytes)) = some (some (.int .u8 0), 1, 1) := by kernel_rfl
/-- append onto the buffer, with room. -/
theorem buf_append {w : World} {g N : Nat} {t : TypeId} {xs : List Value} (h : Buf w g t N xs) (tx ty : TypeId) (x : Value) (n : Nat) (news : List Value) (hs : Src Tryz.prog 1 tx x n news w) (hroom : xs.length + n ≤ N) :
    (Builtin.append_ #[149, tx] ty #[.slice (some ⟨g, 0, none⟩) xs.length N, x]).run Tryz.prog w = .ok (.slice (some ⟨g, 0, none⟩) (xs.length + n) N) (w.setCells g xs.length news) ∧ Buf (w.setCells g xs.length news) g t N (xs ++ news) ∧ Tk g w (w.setCells g xs.length news) := by
  obtain ⟨i0, hi, hz0, hz1, hz2⟩ := info_parts byte_info
  have hnl := hs.newsLen
  refine ⟨?_, ?_, tk_setCells g _ _ _⟩
  · have := run_append_room_src (P := Tryz.prog) w 149 tx ty 5 i0 Tryz.underlying149 hi g 0 xs.length N x n news (by rw [hz1]; exact hs) hroom
      (fun j hj => by rw [hz1]; simp only [Nat.zero_add, Nat.mul_one]; exact (h.room (by omega)).1) (fun j hj => by rw [hz1]; simp only [Nat.zero_add, Nat.mul_one]; exact (h.room (by omega)).2)
    rw [hz1] at this
    simpa using this
  · obtain ⟨cs, B, hsz, ht⟩ := h.ex
    obtain ⟨cs', B', hs', ht'⟩ := blk_setCells news xs.length w cs B (by omega)
    exact ⟨cs', B', by omega, by rw [List.length_append, ht', ht]⟩
/-- What a call that writes l behind the buffer leaves. -/
def RetBuf (g : Nat) (t : TypeId) (N : Nat) (xs : List Value) (l : List UInt8) (w : World) (e : Ending) (w' : World) : Prop :=
  e = .returned (.slice (some ⟨g, 0, none⟩) (xs.length + l.length) N) ∧ Buf w' g t N (xs ++ Lib.byteCells l) ∧ Tk g w w'
theorem small_lay (i : Nat) (h : i < 100) (w : World) : Calls Tryz.prog 155 #[.int .i64 i] w fun e w' => e = .returned (.string (bs (Lib.decDigits i))) ∧ w' = w :=
  Any.internal_strconv_small { fmtLay with } i h w
theorem ndig_lay (u : Nat) (h1 : 1 ≤ u) (h2 : u < 18446744073709551616) (w : World) (ht : PT w) : Calls Tryz.prog 156 #[.int .u64 u] w fun e w' => e = .returned (.int .i64 (Lib.nDigits u)) ∧ w' = w :=
  Any.internal_strconv_numDigits { fmtLay with } u h1 h2 w ht
theorem auint_small (g N u : Nat) (t : TypeId) (xs : List Value) (w : World) (h : Buf w g t N xs) (hu : u < 100) (hroom : xs.length + 20 ≤ N) :
    Calls Tryz.prog 159 #[.slice (some ⟨g, 0, none⟩) xs.length N, .int .u64 u, .int .i64 10] w (RetBuf g t N xs (Lib.decDigits u) w) := by
  have hlen : (Lib.decDigits u).length ≤ 20 := by
    rw [Lib.decDigits_length]
    by_cases h10 : u < 10
    · rw [Lib.nDigits_small h10]; omega
    · rw [Lib.nDigits_big h10, Lib.nDigits_small (show u / 10 < 10 by omega)]; omega
  have hsz : (bs (Lib.decDigits u)).size = (Lib.decDigits u).length := bs_size _
  have hsrc := Src.ofString (P := Tryz.prog) (w := w) (tx := 9) Tryz.underlying9 (bs (Lib.decDigits u))
  have hbc : Go.byteCells (bs (Lib.decDigits u)) = Lib.byteCells (Lib.decDigits u) := by
    unfold Go.byteCells Lib.byteCells; rw [bs_data]
  rw [hbc, hsz] at hsrc
  obtain ⟨hr, hB, hT⟩ := buf_append h 9 149 _ _ _ hsrc (by omega)
  have HR := Lib.hid hr
  have HB := Lib.hid hB
  have HT := Lib.hid hT
  have HS := Lib.hid (small_lay u hu)
  generalize bs (Lib.decDigits u) = S at *
  clear hr hB hT hsrc hbc hsz h
  obtain ⟨n, hn⟩ : ∃ n, xs.length = n := ⟨_, rfl⟩
  unfold RetBuf
  rw [hn] at HR HB HT hroom ⊢
  have HN := Lib.hid hn
  clear hn
  have hui : decide ((u : Int) < 100) = true := decide_eq_true (by omega)
  have hun : decide (u < 100) = true := decide_eq_true hu
  go_enter Tryz.func159, Tryz.ntmps159
  go_wp2_with (first
    | (go_at_call 155; refine (HS.out _).mono ?_; rintro e w' ⟨rfl, rfl⟩)
    | (at_builtin; refine wpList_append_run _ rfl _ _ 149 9 rfl _ _ HR.out ?_))
  go_ret
  exact ⟨rfl, HB.out, HT.out⟩
theorem auint_big (g N u : Nat) (t : TypeId) (xs : List Value) (w : World) (h : Buf w g t N xs) (hu : 100 ≤ u) (hu64 : u < 18446744073709551616) (hroom : xs.length + 20 ≤ N) (ht : PT w) :
    Calls Tryz.prog 159 #[.slice (some ⟨g, 0, none⟩) xs.length N, .int .u64 u, .int .i64 10] w (RetBuf g t N xs (Lib.decDigits u) w) := by
  have hu1 : 1 ≤ u := by omega
  have hnd20 : Lib.nDigits u ≤ 20 := by have := Lib.numDigits_eq u hu1 hu64; split at this <;> omega
  have hal : Tryz.prog.arrayLen 216 = 24 := by kernel_rfl
  have hsl : ∀ W, (Instr.sliceAt 216 (.pointer (some ⟨w.heap.size, 0, none⟩)) none (some (.int .i64 (Lib.nDigits u : Int))) none).run Tryz.prog W = .ok (.slice (some ⟨w.heap.size, 0, none⟩) (Lib.nDigits u) 24) W := fun W => by
    rw [run_sliceAt_array_h W 216 ⟨w.heap.size, 0, none⟩ (by simp [Program.arrayLen, Program.elem, Tryz.underlying216]) .i64 (Lib.nDigits u : Int) (by omega) (by rw [hal]; omega)]
    go_simp
  have hH0 := Lib.holds_zero0 w 216 (Lib.nDigits u) (by omega)
  have hfmt : Calls Tryz.prog 157 #[.slice (some ⟨w.heap.size, 0, none⟩) (Array.replicate (Lib.nDigits u) (0 : UInt8)).size 24, .int .u64 u] (w.alloc (.cells Lib.zeros24 216)) fun e w' =>
      e = .returned (.tuple #[]) ∧ ∃ (n v' : Nat) (dk : Array UInt8), w' = (putRow (fun (b : UInt8) => Value.int .u8 (b.toNat : Int)) (w.alloc (.cells Lib.zeros24 216)) w.heap.size 0 dk).drewN n ∧ FmtInv (Array.replicate (Lib.nDigits u) (0 : UInt8)).size u 0 v' dk :=
    Any.internal_strconv_formatBase10 { fmtLay with } w.heap.size 0 24 u (Array.replicate (Lib.nDigits u) 0) (w.alloc (.cells Lib.zeros24 216)) hH0 (by rw [Array.size_replicate]; exact Lib.lt_pow_nDigits u) hu64 (by rw [Array.size_replicate]; omega)
  rw [Array.size_replicate] at hfmt
  have HH0 := Lib.hid hH0
  have iu : (100 : Int) ≤ (u : Int) := by omega
  have HND := Lib.hid (ndig_lay u hu1 hu64 (w.alloc (.cells Lib.zeros24 216)) (Lib.tabIs_alloc ht _))
  have HFM := Lib.hid hfmt
  have HL := Lib.hid (Lib.decDigits_length u)
  unfold RetBuf
  obtain ⟨n, hn⟩ : ∃ n, xs.length = n := ⟨_, rfl⟩
  have HN := Lib.hid hn
  have HBF := Lib.hid h
  rw [hn] at hroom ⊢
  clear hH0 hal hfmt hn h
  go_enter Tryz.func159, Tryz.ntmps159
  go_wp2_with (go_at_call 156; refine HND.out.mono ?_; rintro e w' ⟨rfl, rfl⟩)
  refine HFM.out.mono ?_
  rintro e w' ⟨rfl, k, v', dk, rfl, hF⟩
  have hcells : ∀ j u', (Lib.byteCells (Lib.decDigits u))[j]? = some u' → ((putRow (fun (b : UInt8) => Value.int .u8 (b.toNat : Int)) (w.alloc (.cells Lib.zeros24 216)) w.heap.size 0 dk).drewN k).cell? ((⟨w.heap.size, 0, none⟩ : Addr).add j) = some u' := by
    intro j u' hj
    have hjl : j < (Lib.decDigits u).length := by
      have h5 := (List.getElem?_eq_some_iff.1 hj).1
      rwa [Lib.byteCells_length] at h5
    have e5 : (Lib.byteCells (Lib.decDigits u))[j]? = some (Value.int .u8 ((Lib.decDigits u)[j].toNat : Int)) := by simp [Lib.byteCells, hjl]
    rw [e5] at hj
    cases hj
    rw [Lib.row_is_numeral hF j hjl, Lib.add_plain, World.cell?_drewN]
    exact cell?_putRow (fun (b : UInt8) => Value.int .u8 (b.toNat : Int)) _ w.heap.size 0 _ dk HH0.out (by rw [hF.size, Array.size_replicate]) j (by rw [hF.size]; rw [Lib.decDigits_length] at hjl; exact hjl)
  obtain ⟨os, eo⟩ := Lib.fin_at w (.cells Lib.zeros24 216) dk k 0
  have hbe : Below w.heap.size w ((putRow (fun (b : UInt8) => Value.int .u8 (b.toNat : Int)) (w.alloc (.cells Lib.zeros24 216)) w.heap.size 0 dk).drewN k) := by rw [eo]; exact Lib.below_grow _ w (Nat.le_refl _) k os
  generalize (putRow (fun (b : UInt8) => Value.int .u8 (b.toNat : Int)) (w.alloc (.cells Lib.zeros24 216)) w.heap.size 0 dk).drewN k = W2 at hcells hbe ⊢
  clear eo HH0 HFM
  have hsrc := Src.ofSlice (P := Tryz.prog) (w := W2) (size := 1) (tx := 149) Tryz.underlying149 ⟨w.heap.size, 0, none⟩ (Lib.nDigits u) 24 (Lib.byteCells (Lib.decDigits u)) (by rw [Lib.byteCells_length, Lib.decDigits_length, Nat.mul_one]) hcells (by intro u' hu'; simp only [Lib.byteCells, List.mem_map] at hu'; obtain ⟨b, _, rfl⟩ := hu'; rfl)
  obtain ⟨hr, hB, hT⟩ := buf_append (HBF.out.keep hbe) 149 149 _ _ _ hsrc (by rw [HN.out]; omega)
  rw [HN.out] at hr hB hT
  have HR := Lib.hid hr
  have HB := Lib.hid hB
  have HT := Lib.hid ((Tk.of hbe).trans hT)
  have HLL := Lib.hid HL.out.symm
  generalize Lib.nDigits u = nd at *
  clear hr hB hT hsrc hcells hbe
  go_wp2_with (at_builtin; refine wpList_append_run _ rfl _ _ 149 149 rfl _ _ HR.out ?_)
  go_ret
  exact ⟨by rw [HLL.out]; rfl, HB.out, HT.out⟩
theorem auint_any (g N u : Nat) (t : TypeId) (xs : List Value) (w : World) (h : Buf w g t N xs) (hu64 : u < 18446744073709551616) (hroom : xs.length + 20 ≤ N) (ht : PT w) :
    Calls Tryz.prog 159 #[.slice (some ⟨g, 0, none⟩) xs.length N, .int .u64 u, .int .i64 10] w (RetBuf g t N xs (Lib.decDigits u) w) := by
  by_cases hu : u < 100
  · exact auint_small g N u t xs w h hu hroom
  · exact auint_big g N u t xs w h (by omega) hu64 hroom ht
theorem tab_named : Tryz.prog.globalNamed "internal/strconv.uint64pow10" = some 0 := by kernel_rfl
theorem PT.lt {w : World} (h : PT w) : 0 < w.heap.size := by
  unfold PT Lib.TabIs World.var? at h
  rw [tab_named] at h
  simp only [Option.bind_some] at h
  cases hh : w.heap[(0 : Nat)]? with
  | none => rw [hh] at h; cases h
  | some o => exact (Array.getElem?_eq_some_iff.1 hh).1
theorem PT.tk {g : Nat} {w w' : World} (h : PT w) (hk : Tk g w w') (hg : 0 < g) : PT w' := by
  have hl := h.lt
  have hb := hk.block 0 hl (by intro e; injection e with e; omega)
  unfold PT Lib.TabIs World.var? at *
  rw [tab_named] at *
  simp only [Option.bind_some] at *
  rw [hb]; exact h
theorem aint_in (i : Int) (h0 : -9223372036854775808 ≤ i) (h1 : i < 9223372036854775808) (g N : Nat) (t : TypeId) (xs : List Value) (w : World) (h : Buf w g t N xs) (hroom : xs.length + 21 ≤ N) (ht : PT w) (hg : 0 < g) :
    Calls Tryz.prog 131 #[.slice (some ⟨g, 0, none⟩) xs.length N, .int .i64 i, .int .i64 10] w (RetBuf g t N xs (Lib.itoa i) w) := by
  obtain ⟨u, hu⟩ : ∃ u : Nat, i.natAbs = u := ⟨_, rfl⟩
  have hu64 : u < 18446744073709551616 := by omega
  by_cases hi : i < 0
  · have hit : Lib.itoa i = 45 :: Lib.decDigits u := by unfold Lib.itoa; rw [if_pos hi, hu]
    have hd : decide (i < 0) = true := decide_eq_true hi
    have hc : IntKind.u64.wrap i = 18446744073709551616 - (u : Int) := by
      have e : IntKind.u64.wrap i = i % 18446744073709551616 := rfl
      rw [e]; omega
    have hc2 : IntKind.u64.wrap (-(18446744073709551616 - (u : Int))) = (u : Int) := by
      have e : IntKind.u64.wrap (-(18446744073709551616 - (u : Int))) = (-(18446744073709551616 - (u : Int))) % 18446744073709551616 := rfl
      rw [e]; omega
    have hui : i = -(u : Int) := by omega
    obtain ⟨W, hW⟩ : ∃ W, w.alloc (.cells #[.int .u8 45] 5) = W := ⟨_, rfl⟩
    have hbW : Below w.heap.size w W := by rw [← hW]; exact (Below.refl _ _).alloc (Nat.le_refl _) _
    have hcell : ∀ j v, [Value.int .u8 45][j]? = some v → W.cell? ((⟨w.heap.size, 0, none⟩ : Addr).add j) = some v := by rw [← hW]; exact cells_new w 5 [.int .u8 45]
    have hsrc := Src.ofSlice (P := Tryz.prog) (w := W) (size := 1) (tx := 149) Tryz.underlying149 ⟨w.heap.size, 0, none⟩ 1 1 [.int .u8 45] rfl hcell (by simp [Value.oneCell'])
    obtain ⟨hr, hB, hT⟩ := buf_append (h.keep hbW) 149 149 _ _ _ hsrc (by omega)
    have hpt : PT (W.setCells g xs.length [.int .u8 45]) := (ht.keep hbW).tk hT hg
    have HA := Lib.hid (auint_any g N u t (xs ++ [.int .u8 45]) _ hB hu64 (by simp; omega) hpt)
    have HR := Lib.hid hr
    have HT := Lib.hid ((Tk.of hbW).trans hT)
    have HWW := Lib.hid hW
    obtain ⟨n, hn⟩ : ∃ n, xs.length = n := ⟨_, rfl⟩
    rw [hit]
    unfold RetBuf
    rw [List.length_append, List.length_singleton] at HA
    unfold RetBuf at HA
    rw [hn] at HR HT HA hroom ⊢
    have HN := Lib.hid hn
    clear hW hr hB hT hsrc hcell hpt hbW h ht hn hit
    subst hui
    clear hu
    go_enter Tryz.func131, Tryz.ntmps131
    go_wp2_with (at_builtin; rw [HWW.out]; refine wpList_append_run _ rfl _ _ 149 149 rfl _ _ HR.out ?_)
    refine HA.out.mono ?_
    rintro e w2 ⟨rfl, hB2, hT2⟩
    go_wp2
    go_ret
    refine ⟨?_, ?_, HT.out.trans hT2⟩
    · rw [HN.out, show n + 1 + (Lib.decDigits u).length = n + ((Lib.decDigits u).length + 1) by omega]; rfl
    · have e : xs ++ Lib.byteCells (45 :: Lib.decDigits u) = xs ++ [.int .u8 45] ++ Lib.byteCells (Lib.decDigits u) := by simp [Lib.byteCells]
      rw [e]; exact hB2
  · have hit : Lib.itoa i = Lib.decDigits u := by
      unfold Lib.itoa
      rw [if_neg hi, show i.toNat = u by omega]
    have hui : i = (u : Int) := by omega
    have HA := Lib.hid (auint_any g N u t xs w h hu64 (by omega) ht)
    obtain ⟨n, hn⟩ : ∃ n, xs.length = n := ⟨_, rfl⟩
    rw [hit]
    rw [hn] at HA hroom ⊢
    subst hui
    have hd : decide ((u : Int) < 0) = false := decide_eq_false hi
    have hc : IntKind.u64.wrap (u : Int) = (u : Int) := by
      have e : IntKind.u64.wrap (u : Int) = (u : Int) % 18446744073709551616 := rfl
      rw [e]; omega
    have HN := Lib.hid hn
    clear hu hit h ht hn
    go_enter Tryz.func131, Tryz.ntmps131
    go_wp2_with (fail)
    refine HA.out.mono ?_
    rintro e w2 ⟨rfl, hB2, hT2⟩
    go_wp2
    go_ret
    refine ⟨?_, hB2, hT2⟩
    rw [HN.out]; rfl
theorem aint_any (i : Int) (h0 : -9223372036854775808 ≤ i) (h1 : i < 9223372036854775808) (g N : Nat) (t : TypeId) (xs : List Value) (w : World) (h : Buf w g t N xs) (hroom : xs.length + 21 ≤ N) (ht : PT w) (hg : 0 < g) :
    Calls Tryz.prog 102 #[.slice (some ⟨g, 0, none⟩) xs.length N, .int .i64 i, .int .i64 10] w (RetBuf g t N xs (Lib.itoa i) w) := by
  have HA := Lib.hid (aint_in i h0 h1 g N t xs w h hroom ht hg)
  obtain ⟨n, hn⟩ : ∃ n, xs.length = n := ⟨_, rfl⟩
  rw [hn] at HA ⊢
  have HN := Lib.hid hn
  clear hn h hroom ht
  go_enter Tryz.func102, Tryz.ntmps102
  go_wp2_with (fail)
  refine HA.out.mono ?_
  rintro e w2 ⟨rfl, hB2, hT2⟩
  go_wp2
  go_ret
  exact ⟨by rw [HN.out]; rfl, hB2, hT2⟩
end Go.Proofs.Tg.Fi
end
