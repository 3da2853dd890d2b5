/- Parts of the proof: LO3. -/
import Derived.Test.YtpkompfkhoceoaaGreatDoorMMO24
section
/- The statement MomentsOf. -/
namespace Go.Proofs.Tg
open Go.RowKit Go.Gr Go.Bn Go.Rq Go.Mm
open Go.Proofs.Tg.Fi (QsAt Txts TRow TRowsAt vq txts_of of_any RetFun texts_b texts_q RetTB RetTxts fadd_any fscale_any same_any write_q known_any PT)
set_option maxHeartbeats 16000000
set_option maxRecDepth 100000
theorem law_of (A : Option Addr) (c : Nat) (l : List Int) (w : World) (hA : Ints w A l) (hc : l.length ≤ c) (hx : ∀ x ∈ l, -9223372036854775808 ≤ x ∧ x < 9223372036854775808) (hn : l.length < 9223372036854775808) (hT : PT w) :
    Calls Tryz.prog 5 #[.slice A l.length c] w fun e w' => e = .returned (.bool true) ∧ Below w.heap.size w w' := by
  have HNEW := Lib.hid (new_any A c l w hA hc hx hn)
  have HN3 : Hid (∀ V g, TapeAt V g → Calls Tryz.prog 16 #[.pointer (some ⟨g, 0, none⟩), .int .i64 3] V (RetT g (fun v _ => ∃ k : Nat, k < 3 ∧ v = .int .i64 (k : Nat)) V)) := Lib.hid (fun V g h => next_any g 3 V h (by omega) (by omega))
  have HN5 : Hid (∀ V g, TapeAt V g → Calls Tryz.prog 16 #[.pointer (some ⟨g, 0, none⟩), .int .i64 5] V (RetT g (fun v _ => ∃ k : Nat, k < 5 ∧ v = .int .i64 (k : Nat)) V)) := Lib.hid (fun V g h => next_any g 5 V h (by omega) (by omega))
  have HPTS : Hid (∀ V g (v : Nat), TapeAt V g → v ≤ 10 → Calls Tryz.prog 17 #[.pointer (some ⟨g, 0, none⟩), .int .i64 (v : Nat)] V (RetPts v g V)) := Lib.hid (fun V g v h hv => points_any g v V h hv)
  have HNUM : Hid (∀ V g, TapeAt V g → Calls Tryz.prog 18 #[.pointer (some ⟨g, 0, none⟩)] V (RetT g (fun v w' => ∃ (n : Int) (d : Nat), n.natAbs ≤ 9 ∧ 1 ≤ d ∧ d ≤ 4 ∧ QAt w' v (mkRat n d)) V)) := Lib.hid (fun V g h => num_any g V h)
  have HPT := Lib.hid hT
  clear hA hc hx hn hT
  go_enter Tryz.func5, Tryz.ntmps5
  go_wp2_with (fail)
  refine HNEW.out.mono ?_
  rintro e w1 ⟨g, rfl, hgw, hT1, hb1⟩
  have HT1 := Lib.hid hT1
  have HB1 := Lib.hid hb1
  clear hT1 hb1
  go_wp2_with (fail)
  refine (HN3.out _ _ HT1.out).mono ?_
  rintro e w2 ⟨_, rfl, ⟨k0, hk3, rfl⟩, hT2, ht2⟩
  have HT2 := Lib.hid hT2
  have HK2 := Lib.hid ht2
  clear hT2 ht2
  go_wp2_with (fail)
  refine (HN5.out _ _ HT2.out).mono ?_
  rintro e w3 ⟨_, rfl, ⟨d, hd5, rfl⟩, hT3, ht3⟩
  have HT3 := Lib.hid hT3
  have HK3 := Lib.hid (HK2.out.trans ht3)
  clear hT3 ht3
  obtain ⟨v, hv⟩ : ∃ v : Nat, 1 + k0 = v := ⟨_, rfl⟩
  have hvI : (1 : Int) + (k0 : Int) = (v : Int) := by omega
  have hv1 : 1 ≤ v := by omega
  have hv3 : v ≤ 3 := by omega
  have hd4 : d ≤ 4 := by omega
  go_upto_region 3 with (fail)
  try rw [hvI]
  clear hvI hv hk3 hd5 HN3 HN5 HNEW HT1 HT2 HK2

  go_wp2_with (fail)
  refine (HPTS.out _ _ v HT3.out (by omega)).mono ?_
  rintro e w4 ⟨X1, cx1, ps1, Y1, cy1, us1, rfl, h11, h14, hP⟩
  have HP1 := Lib.hid hP
  have HL11 := Lib.hid h11
  have HL14 := Lib.hid h14
  clear hP h11 h14
  go_wp2_with (fail)
  refine (HPTS.out _ _ v HP1.out.tape (by omega)).mono ?_
  rintro e w5 ⟨X2, cx2, ps2, Y2, cy2, us2, rfl, h21, h24, hP⟩
  have HP2 := Lib.hid hP
  have HL21 := Lib.hid h21
  have HL24 := Lib.hid h24
  clear hP h21 h24
  go_wp2_with (fail)
  refine (HNUM.out _ _ HP2.out.tape).mono ?_
  rintro e w6 ⟨vr, rfl, ⟨zn, zd, hzn, hzd1, hzd4, hQ⟩, hT6, ht6⟩
  obtain ⟨r, hrq, rfl, hok⟩ := hQ.rval
  have HRC : Hid (Bd 12 108 r.q) := Lib.hid (by rw [hrq]; exact bd_weight zn zd hzn hzd1 hzd4)
  have HOK1 : Hid (PtOk v (us1.map RVal.q) (ptQ ps1)) := Lib.hid (HP1.out.ptOk HL11.out HL14.out)
  have HOK2 : Hid (PtOk v (us2.map RVal.q) (ptQ ps2)) := Lib.hid (HP2.out.ptOk HL21.out HL24.out)
  have hbw6 : Below w.heap.size w w6 := Tk.below HB1.out (HK3.out.trans (HP1.out.tk.trans (HP2.out.tk.trans ht6))) hgw
  have hX1 : PtsAt w6 X1 ps1 ∧ QsAt w6 Y1 us1 := by
    obtain ⟨cs4, BT4⟩ := HP1.out.tape.blk
    obtain ⟨cs5, BT5⟩ := HP2.out.tape.blk
    have hgl : g < w3.heap.size := HT3.out.lt
    exact ⟨((HP1.out.xs.tk HP2.out.tk hgl BT4 (by decide)).tk ht6 hgl BT5 (by decide)).pts, Fi.OwnQ.qs ((HP1.out.ys.tk HP2.out.tk hgl BT4 (by decide)).tk ht6 hgl BT5 (by decide))⟩
  have hX2 : PtsAt w6 X2 ps2 ∧ QsAt w6 Y2 us2 := by
    obtain ⟨cs5, BT5⟩ := HP2.out.tape.blk
    have hgl : g < w4.heap.size := HP1.out.tape.lt
    exact ⟨(HP2.out.xs.tk ht6 hgl BT5 (by decide)).pts, Fi.OwnQ.qs (HP2.out.ys.tk ht6 hgl BT5 (by decide))⟩
  have hu1 := HP1.out.lenw
  have hu2 := HP2.out.lenw
  rw [hu1, hu2]
  obtain ⟨n1, hn1⟩ : ∃ x, ps1.length = x := ⟨_, rfl⟩
  obtain ⟨n2, hn2⟩ : ∃ x, ps2.length = x := ⟨_, rfl⟩
  rw [hn1] at hu1
  rw [hn2] at hu2
  rw [hn1, hn2]
  have HN1 := Lib.hid hn1
  have HN2 := Lib.hid hn2
  have HU1 := Lib.hid hu1
  have HU2 := Lib.hid hu2
  have HXL1 : Hid ((ptQ ps1).length = n1) := Lib.hid (by simp [ptQ, hn1])
  have HXL2 : Hid ((ptQ ps2).length = n2) := Lib.hid (by simp [ptQ, hn2])
  have hl1 : n1 ≤ 4 := by rw [← hn1]; exact HL14.out
  have hl2 : n2 ≤ 4 := by rw [← hn2]; exact HL24.out
  have hb3 : Below w6.heap.size w6 (w6.alloc (.cells #[.bool (decide (r.q.num < 0)), .slice r.N (dg r.q.num.natAbs).length r.cn, .bool false, .slice r.D (dg (dnz r.q.den)).length r.cd] 52)) := (Below.refl _ _).alloc (Nat.le_refl _) _
  have HR : Hid (RBlk (w6.alloc (.cells #[.bool (decide (r.q.num < 0)), .slice r.N (dg r.q.num.natAbs).length r.cn, .bool false, .slice r.D (dg (dnz r.q.den)).length r.cd] 52)) w6.heap.size r) := Lib.hid ⟨Blk.new _ _ _, hok.keep hb3⟩
  have HPA1 := Lib.hid (hX1.1.keep hb3)
  have HPA2 := Lib.hid (hX2.1.keep hb3)
  have HQA1 := Lib.hid (hX1.2.keep hb3)
  have HQA2 := Lib.hid (hX2.2.keep hb3)
  have HBW := Lib.hid (below_all hbw6 hb3)
  clear hX1 hX2 hu1 hu2 hn1 hn2 hbw6 hb3 hok hQ hrq hzn hzd1 hzd4 ht6 hT6 HP1 HP2 HL11 HL14 HL21 HL24 HPTS HNUM HT3 HK3 HB1 hgw
  unfold RVal.val
  go_upto_region 6 with (fail)
  generalize w6.alloc (.cells #[.bool (decide (r.q.num < 0)), .slice r.N (dg r.q.num.natAbs).length r.cn, .bool false, .slice r.D (dg (dnz r.q.den)).length r.cd] 52) = wa at *
  generalize w6.heap.size = g10 at *
  have HTL01 : Hid (TL wa wa none 0 [] (ptQ ps1) 0) := Lib.hid ⟨OwnTR.nil _ _, Below.refl _ _, rfl, rfl⟩
  go_wp2
  go_loopw [11, 51] (fun sa sk wr => ∃ (k : Nat) (R : Option Addr) (cR : Nat) (rows : List TB), sa = .slice R k cR ∧ sk = .int .i64 (k : Nat) ∧ k ≤ n1 ∧ Hid (TL wa wr R cR rows (ptQ ps1) k)) (fun _ sk _ => n1 - (intOf sk).toNat)
  case atStart => exact ⟨0, none, 0, [], rfl, rfl, Nat.zero_le _, HTL01⟩
  case round =>
    clear HTL01
    obtain ⟨wl1, rfl⟩ : ∃ wo : World, wo = wr := ⟨_, rfl⟩
    obtain ⟨k, R1, cc1, rows, rfl, rfl, hk, HST⟩ := hrel
    by_cases hkn : k = n1
    · have e1 : decide ((k : Int) < (n1 : Int)) = false := decide_eq_false (by omega)
      have e1' : decide (k < n1) = false := decide_eq_false (by omega)
      have HTR1 : Hid (TRowsAt wl1 R1 (ptQ ps1)) := Lib.hid (HST.out.all (by rw [HXL1.out]; exact hkn))
      have HBL1 := Lib.hid HST.out.below
      subst k
      clear HST
      have HPA2b := Lib.hid (HPA2.out.keep HBL1.out)

      have HTL02 : Hid (TL wl1 wl1 none 0 [] (ptQ ps2) 0) := Lib.hid ⟨OwnTR.nil _ _, Below.refl _ _, rfl, rfl⟩
      go_wp2
      go_loopw [12, 65] (fun sa sk wr => ∃ (k : Nat) (R : Option Addr) (cR : Nat) (rows : List TB), sa = .slice R k cR ∧ sk = .int .i64 (k : Nat) ∧ k ≤ n2 ∧ Hid (TL wl1 wr R cR rows (ptQ ps2) k)) (fun _ sk _ => n2 - (intOf sk).toNat)
      case atStart => exact ⟨0, none, 0, [], rfl, rfl, Nat.zero_le _, HTL02⟩
      case round =>
        clear HTL02
        obtain ⟨wl2, rfl⟩ : ∃ wo : World, wo = wr := ⟨_, rfl⟩
        obtain ⟨k, R2, cc2, rows, rfl, rfl, hk, HST⟩ := hrel
        by_cases hkn : k = n2
        · have e1 : decide ((k : Int) < (n2 : Int)) = false := decide_eq_false (by omega)
          have e1' : decide (k < n2) = false := decide_eq_false (by omega)
          have HTR2 : Hid (TRowsAt wl2 R2 (ptQ ps2)) := Lib.hid (HST.out.all (by rw [HXL2.out]; exact hkn))
          have HBL2 := Lib.hid HST.out.below
          subst k
          clear HST
          have HB2 := Lib.hid (below_all HBL1.out HBL2.out)
          have HTRa := Lib.hid (HTR1.out.keep HBL2.out)
          have HTRb := Lib.hid HTR2.out
          have HPTz := Lib.hid (HPT.out.keep (below_all HBW.out HB2.out))
          have HBWz := Lib.hid (below_all HBW.out HB2.out)
          have HX1 := Lib.hid (HPA1.out.keep HB2.out)
          have HX2 := Lib.hid (HPA2.out.keep HB2.out)
          have HQ1 := Lib.hid (HQA1.out.keep HB2.out)
          have HQ2 := Lib.hid (HQA2.out.keep HB2.out)
          have HRz := Lib.hid (HR.out.keep HB2.out)
          clear HPA1 HPA2 HQA1 HQA2 HR HBW HB2 HBL1 HBL2 HTR1 HTR2 HPT HPA2b
          obtain ⟨N, hN⟩ : ∃ x, cnt v d = x := ⟨_, rfl⟩
          have hN35 : N ≤ 35 := by rw [← hN]; exact cnt_small v d hv3 hd4
          obtain ⟨qa, hqa⟩ : ∃ x, (mons v d).map (sumTo (us1.map RVal.q) (ptQ ps1) n1) = x := ⟨_, rfl⟩
          obtain ⟨qb, hqb⟩ : ∃ x, (mons v d).map (sumTo (us2.map RVal.q) (ptQ ps2) n2) = x := ⟨_, rfl⟩
          have hla : qa.length = N := by rw [← hqa, lo_len, hN]
          have hlb : qb.length = N := by rw [← hqb, lo_len, hN]
          have hba : ∀ q ∈ qa, Bd 12 1769472 q := by rw [← hqa]; exact pt_vals HOK1.out hv3 hd4 HXL1.out
          have hbb : ∀ q ∈ qb, Bd 12 1769472 q := by rw [← hqb]; exact pt_vals HOK2.out hv3 hd4 HXL2.out
          have hsa : ∀ q ∈ qa, Sh q := fun q hq => (hba q hq).sh (by decide) (by decide) (by decide)
          have hsb : ∀ q ∈ qb, Sh q := fun q hq => (hbb q hq).sh (by decide) (by decide) (by decide)
          have HBA := Lib.hid hba
          have HBB := Lib.hid hbb
          have HSA := Lib.hid hsa
          have HSB := Lib.hid hsb
          have HLA := Lib.hid hla
          have HLB := Lib.hid hlb
          have HT1 : Hid (∀ V, Below wl2.heap.size wl2 V → Calls Tryz.prog 19 #[.slice Y1 n1 cy1] V fun e w' => ∃ A, e = .returned (.slice A n1 n1) ∧ Txts w' A (us1.map RVal.q) ∧ Below V.heap.size V w') := Lib.hid (fun V h => lo_texts HU1.out (by omega) (pt_shw HOK1.out) Y1 cy1 V (HQ1.out.keep h))
          have HT2 : Hid (∀ V, Below wl2.heap.size wl2 V → Calls Tryz.prog 19 #[.slice Y2 n2 cy2] V fun e w' => ∃ A, e = .returned (.slice A n2 n2) ∧ Txts w' A (us2.map RVal.q) ∧ Below V.heap.size V w') := Lib.hid (fun V h => lo_texts HU2.out (by omega) (pt_shw HOK2.out) Y2 cy2 V (HQ2.out.keep h))
          have HO1 : Hid (∀ V A c', Below wl2.heap.size wl2 V → Txts V A (us1.map RVal.q) → Calls Tryz.prog 12 #[.slice R1 n1 cc1, .slice A n1 c', .int .i64 (d : Nat)] V fun e w' => ∃ A', e = .returned (.tuple #[.agg #[.int .i64 (v : Nat), .int .i64 (d : Nat), .slice A' N N], .int .i64 0]) ∧ Txts w' A' qa ∧ Below V.heap.size V w') := Lib.hid (fun V A c' h hT => by rw [← hqa]; exact lo_of HOK1.out hv1 hv3 hd4 HXL1.out hN R1 A cc1 c' V (HTRa.out.keep h) hT (HPTz.out.keep h))
          have HO2 : Hid (∀ V A c', Below wl2.heap.size wl2 V → Txts V A (us2.map RVal.q) → Calls Tryz.prog 12 #[.slice R2 n2 cc2, .slice A n2 c', .int .i64 (d : Nat)] V fun e w' => ∃ A', e = .returned (.tuple #[.agg #[.int .i64 (v : Nat), .int .i64 (d : Nat), .slice A' N N], .int .i64 0]) ∧ Txts w' A' qb ∧ Below V.heap.size V w') := Lib.hid (fun V A c' h hT => by rw [← hqb]; exact lo_of HOK2.out hv1 hv3 hd4 HXL2.out hN R2 A cc2 c' V (HTRb.out.keep h) hT (HPTz.out.keep h))
          have HRO1 : Hid (∀ V, Below wl2.heap.size wl2 V → Calls Tryz.prog 23 #[.slice X1 n1 cx1, .slice Y1 n1 cy1, .int .i64 (d : Nat)] V fun e w' => ∃ A c rs, e = .returned (.agg #[.int .i64 (v : Nat), .int .i64 (d : Nat), .slice A N c]) ∧ QsAt w' A rs ∧ rs.length = N ∧ rs.map RVal.q = qa ∧ Below V.heap.size V w') := Lib.hid (fun V h => by rw [← hqa]; exact lo_rof HOK1.out hv1 hv3 hd4 HN1.out HU1.out hN X1 Y1 cx1 cy1 V (HX1.out.keep h) (HQ1.out.keep h))
          have HRO2 : Hid (∀ V, Below wl2.heap.size wl2 V → Calls Tryz.prog 23 #[.slice X2 n2 cx2, .slice Y2 n2 cy2, .int .i64 (d : Nat)] V fun e w' => ∃ A c rs, e = .returned (.agg #[.int .i64 (v : Nat), .int .i64 (d : Nat), .slice A N c]) ∧ QsAt w' A rs ∧ rs.length = N ∧ rs.map RVal.q = qb ∧ Below V.heap.size V w') := Lib.hid (fun V h => by rw [← hqb]; exact lo_rof HOK2.out hv1 hv3 hd4 HN2.out HU2.out hN X2 Y2 cx2 cy2 V (HX2.out.keep h) (HQ2.out.keep h))
          have HAD : Hid (∀ V A B, Below wl2.heap.size wl2 V → Txts V A qa → Txts V B qb → Calls Tryz.prog 20 #[.agg #[.int .i64 (v : Nat), .int .i64 (d : Nat), .slice A N N], .agg #[.int .i64 (v : Nat), .int .i64 (d : Nat), .slice B N N]] V fun e w' => ∃ A', e = .returned (.tuple #[.agg #[.int .i64 (v : Nat), .int .i64 (d : Nat), .slice A' N N], .int .i64 0]) ∧ Txts w' A' (List.zipWith (· + ·) qa qb) ∧ Below V.heap.size V w') := Lib.hid (fun V A B h hA hB => lo_add hv1 hv3 hd4 hN HLA.out HLB.out HSA.out HSB.out A B N N V hA hB (HPTz.out.keep h))
          have HSC : Hid (∀ V A, Below wl2.heap.size wl2 V → Txts V A qa → Calls Tryz.prog 21 #[.string (qtx r.q), .agg #[.int .i64 (v : Nat), .int .i64 (d : Nat), .slice A N N]] V fun e w' => ∃ A', e = .returned (.tuple #[.agg #[.int .i64 (v : Nat), .int .i64 (d : Nat), .slice A' N N], .int .i64 0]) ∧ Txts w' A' (qa.map (r.q * ·)) ∧ Below V.heap.size V w') := Lib.hid (fun V A h hA => lo_scale hv1 hv3 hd4 hN HLA.out HSA.out (HRC.out.sh (by decide) (by decide) (by decide)) A N V hA (HPTz.out.keep h))
          have HTXT : Hid (∀ V, Below wl2.heap.size wl2 V → Calls Tryz.prog 22 #[.agg #[.bool (decide (r.q.num < 0)), .slice r.N (dg r.q.num.natAbs).length r.cn, .bool false, .slice r.D (dg (dnz r.q.den)).length r.cd]] V fun e w' => e = .returned (.string (qtx r.q)) ∧ Below V.heap.size V w') := Lib.hid (fun V h => text_q r.q r.val V (HRz.out.ok.keep h).at (HRC.out.sh (by decide) (by decide) (by decide)))
          clear hqa hqb hN hla hlb hba hbb hsa hsb HTRa HTRb HX1 HX2 HQ1 HQ2
          go_wp2_with (fail)
          refine (HT1.out _ (Below.refl _ _)).mono ?_
          rintro e w17 ⟨A1, rfl, hT17, hb17⟩
          go_wp2_with (fail)
          refine (HO1.out _ A1 _ hb17 hT17).mono ?_
          rintro e w18 ⟨F1, rfl, hTw18, hb18⟩
          have hbw18 := below_all hb17 hb18
          clear hT17 hb17 hb18 HT1 HO1

          have hal := (Below.refl w18.heap.size w18).alloc (Nat.le_refl _) (.cells #[.int .i64 (v : Nat), .int .i64 (d : Nat), .slice F1 N N] 24)
          have Hg15 : Hid (FunAt (w18.alloc (.cells #[.int .i64 (v : Nat), .int .i64 (d : Nat), .slice F1 N N] 24)) w18.heap.size v d N F1 qa) := Lib.hid ⟨Blk.new _ _ _, hTw18.keep hal⟩
          have HBwD : Hid (Below wl2.heap.size wl2 (w18.alloc (.cells #[.int .i64 (v : Nat), .int .i64 (d : Nat), .slice F1 N N] 24))) := Lib.hid (below_all hbw18 hal)
          clear hal hTw18 hbw18

          go_upto_region 18 with (fail)
          generalize w18.alloc (.cells #[.int .i64 (v : Nat), .int .i64 (d : Nat), .slice F1 N N] 24) = wD at *
          generalize w18.heap.size = g15 at *
          go_wp2_with (fail)
          refine (HT2.out _ HBwD.out).mono ?_
          rintro e w19 ⟨A2, rfl, hT19, hb19⟩
          go_wp2_with (fail)
          refine (HO2.out _ A2 _ (below_all HBwD.out hb19) hT19).mono ?_
          rintro e w20 ⟨F2, rfl, hTw20, hb20⟩
          have hbw20 := below_all HBwD.out (below_all hb19 hb20)
          have hFk := below_all hb19 hb20
          clear hT19 hb19 hb20 HT2 HO2

          have hal := (Below.refl w20.heap.size w20).alloc (Nat.le_refl _) (.cells #[.int .i64 (v : Nat), .int .i64 (d : Nat), .slice F2 N N] 24)
          have Hg17 : Hid (FunAt (w20.alloc (.cells #[.int .i64 (v : Nat), .int .i64 (d : Nat), .slice F2 N N] 24)) w20.heap.size v d N F2 qb) := Lib.hid ⟨Blk.new _ _ _, hTw20.keep hal⟩
          have HBwE : Hid (Below wl2.heap.size wl2 (w20.alloc (.cells #[.int .i64 (v : Nat), .int .i64 (d : Nat), .slice F2 N N] 24))) := Lib.hid (below_all hbw20 hal)
          have Hg15 := Lib.hid (Hg15.out.keep (below_all hFk hal))
          clear hal hTw20 hbw20

          clear hFk HBwD
          go_upto_region 19 with (fail)
          generalize w20.alloc (.cells #[.int .i64 (v : Nat), .int .i64 (d : Nat), .slice F2 N N] 24) = wE at *
          generalize w20.heap.size = g17 at *
          obtain ⟨x0, x1, x2, _, _, _⟩ := Hg15.out.blk.three
          obtain ⟨y0, y1, y2, _, _, _⟩ := Hg17.out.blk.three
          go_wp2_with (fail)
          refine (HAD.out _ F1 F2 HBwE.out Hg15.out.txt Hg17.out.txt).mono ?_
          rintro e w21 ⟨F3, rfl, hTw21, hb21⟩
          have hbw21 := below_all HBwE.out hb21

          have hal := (Below.refl w21.heap.size w21).alloc (Nat.le_refl _) (.cells #[.int .i64 (v : Nat), .int .i64 (d : Nat), .slice F3 N N] 24)
          have Hg19 : Hid (FunAt (w21.alloc (.cells #[.int .i64 (v : Nat), .int .i64 (d : Nat), .slice F3 N N] 24)) w21.heap.size v d N F3 (List.zipWith (· + ·) qa qb)) := Lib.hid ⟨Blk.new _ _ _, hTw21.keep hal⟩
          have HBwF : Hid (Below wl2.heap.size wl2 (w21.alloc (.cells #[.int .i64 (v : Nat), .int .i64 (d : Nat), .slice F3 N N] 24))) := Lib.hid (below_all hbw21 hal)
          have Hg15 := Lib.hid (Hg15.out.keep (below_all hb21 hal))
          have Hg17 := Lib.hid (Hg17.out.keep (below_all hb21 hal))
          clear hal hTw21 hbw21

          clear hb21 HBwE x0 x1 x2 y0 y1 y2 HAD
          go_upto_region 20 with (fail)
          generalize w21.alloc (.cells #[.int .i64 (v : Nat), .int .i64 (d : Nat), .slice F3 N N] 24) = wF at *
          generalize w21.heap.size = g19 at *

          obtain ⟨x0, x1, x2, _, _, _⟩ := Hg15.out.blk.three
          have HRf := Lib.hid (HRz.out.keep HBwF.out)
          obtain ⟨y0, y1, y2, y3, _, _, _, _⟩ := HRf.out.b.four
          have hl15 := Hg15.out.blk.lt
          have hl10 := HRf.out.b.lt
          go_cut [21, 22] (fun s21 s22 wx => ∃ (g21 : Nat) (F4 : Option Addr), s21 = .pointer (some ⟨g21, 0, none⟩) ∧ s22 = .int .i64 0 ∧ Hid (FunAt wx g21 v d N F4 (qa.map (r.q * ·)) ∧ Below wF.heap.size wF wx))
          case first =>
            as_aux_lemma =>
              clear HRO1 HRO2 Hg17 Hg19
              have BZ : Below wF.heap.size wF wF.drew := (Below.refl _ _).drew
              refine wp_region_held_drew (S := (fun w' => w'.cell? ⟨g15, 0, none⟩ = some (.int .i64 (v : Nat)) ∧ w'.cell? ⟨g15, 1, none⟩ = some (.int .i64 (d : Nat)) ∧ w'.cell? ⟨g15, 2, none⟩ = some (.slice F1 N N) ∧ w'.cell? ⟨g10, 0, none⟩ = some (.bool (decide (r.q.num < 0))) ∧ w'.cell? ⟨g10, 1, none⟩ = some (.slice r.N (dg r.q.num.natAbs).length r.cn) ∧ w'.cell? ⟨g10, 2, none⟩ = some (.bool false) ∧ w'.cell? ⟨g10, 3, none⟩ = some (.slice r.D (dg (dnz r.q.den)).length r.cd))) (by kernel_rfl) ⟨keep_cell BZ x0, keep_cell BZ x1, keep_cell BZ x2, keep_cell BZ y0, keep_cell BZ y1, keep_cell BZ y2, keep_cell BZ y3⟩ (fun hHeld => ?_)
              generalize wF.drew = Z at *
              refine wpAnyH_get 0 (some 100) (.agg #[.bool (decide (r.q.num < 0)), .slice r.N (dg r.q.num.natAbs).length r.cn, .bool false, .slice r.D (dg (dnz r.q.den)).length r.cd]) rfl rfl (by kernel_rfl) (by kernel_rfl) (by kernel_rfl) (fun _ _ _ h => h) (by rfl) hHeld ?_ ?_
              · (intro w hSw; (try dsimp only at hSw); go_simp; all_goals (try with_reducible rfl))
              (try simp only [Act.put, List.setIfInBounds_toArray, List.set_cons_zero, List.set_cons_succ])
              refine wpAnyH_get 2 (some 102) (.agg #[.int .i64 (v : Nat), .int .i64 (d : Nat), .slice F1 N N]) rfl rfl (by kernel_rfl) (by kernel_rfl) (by kernel_rfl) (fun _ _ _ h => h) (by rfl) hHeld ?_ ?_
              · (intro w hSw; (try dsimp only at hSw); go_simp; all_goals (try with_reducible rfl))
              (try simp only [Act.put, List.setIfInBounds_toArray, List.set_cons_zero, List.set_cons_succ])
              refine wpAnyH_ready (rs := [1, 7]) (by kernel_rfl) (by simp) ?_
              refine AllReadyH.cons rfl (fun K hK => ?_) (AllReadyH.cons rfl (fun K hK => ?_) AllReadyH.nil)
              · go_simp
                refine (HTXT.out _ (below_all HBwF.out BZ)).mono ?_
                rintro e Z1 ⟨rfl, hb⟩
                (try go_simp)
                have BZ1 := below_all BZ hb
                refine hK.out _ _ ⟨keep_cell BZ1 x0, keep_cell BZ1 x1, keep_cell BZ1 x2, keep_cell BZ1 y0, keep_cell BZ1 y1, keep_cell BZ1 y2, keep_cell BZ1 y3⟩ (fun hHeld => ?_)
                clear hK K hb
                (try simp only [Act.put, List.setIfInBounds_toArray, List.set_cons_zero, List.set_cons_succ])
                refine wpAnyH_ready (rs := [3, 7]) (by kernel_rfl) (by simp) ?_
                refine AllReadyH.cons rfl (fun K hK => ?_) (AllReadyH.cons rfl (fun K hK => ?_) AllReadyH.nil)
                · go_simp
                  refine (HSC.out _ F1 (below_all HBwF.out BZ1) (Hg15.out.txt.keep BZ1)).mono ?_
                  rintro e Z2 ⟨F4, rfl, hT4, hb⟩
                  (try go_simp)
                  have HT4 := Lib.hid hT4
                  have BZ2 := below_all BZ1 hb
                  refine hK.out _ _ ⟨keep_cell BZ2 x0, keep_cell BZ2 x1, keep_cell BZ2 x2, keep_cell BZ2 y0, keep_cell BZ2 y1, keep_cell BZ2 y2, keep_cell BZ2 y3⟩ (fun hHeld => ?_)
                  clear hK K hb hT4
                  (try simp only [Act.put, List.setIfInBounds_toArray, List.set_cons_zero, List.set_cons_succ])
                  refine wpAnyH_get 4 (some 99) (.tuple #[.agg #[.int .i64 (v : Nat), .int .i64 (d : Nat), .slice F4 N N], .int .i64 0]) rfl rfl (by kernel_rfl) (by kernel_rfl) (by kernel_rfl) (fun _ _ _ h => h) (by rfl) hHeld ?_ ?_
                  · (intro w hSw; (try dsimp only at hSw); go_simp; all_goals (try with_reducible rfl))
                  (try simp only [Act.put, List.setIfInBounds_toArray, List.set_cons_zero, List.set_cons_succ])
                  refine wpAnyH_get 5 (some 104) (.agg #[.int .i64 (v : Nat), .int .i64 (d : Nat), .slice F4 N N]) rfl rfl (by kernel_rfl) (by kernel_rfl) (by kernel_rfl) (fun _ _ _ h => h) (by rfl) hHeld ?_ ?_
                  · (intro w hSw; (try dsimp only at hSw); go_simp; all_goals (try with_reducible rfl))
                  (try simp only [Act.put, List.setIfInBounds_toArray, List.set_cons_zero, List.set_cons_succ])
                  refine wpAnyH_get 6 (some 105) (.int .i64 0) rfl rfl (by kernel_rfl) (by kernel_rfl) (by kernel_rfl) (fun _ _ _ h => h) (by rfl) hHeld ?_ ?_
                  · (intro w hSw; (try dsimp only at hSw); go_simp; all_goals (try with_reducible rfl))
                  (try simp only [Act.put, List.setIfInBounds_toArray, List.set_cons_zero, List.set_cons_succ])
                  refine wpAnyH_ready (rs := [7]) (by kernel_rfl) (by simp) ?_
                  refine AllReadyH.cons rfl (fun K hK => ?_) AllReadyH.nil
                  go_simp
                  have hba : Below Z2.heap.size Z2 (Z2.alloc (.cells #[.int .i64 0, .int .i64 0, .slice none 0 0] 24)) := (Below.refl _ _).alloc (Nat.le_refl _) _
                  have BZ3 := below_all BZ2 hba
                  have G21 := Blk.new Z2 24 #[.int .i64 0, .int .i64 0, .slice none 0 0]
                  have hg21 := BZ2.size
                  have HT4 := Lib.hid (HT4.out.keep hba)
                  refine hK.out _ _ ⟨keep_cell BZ3 x0, keep_cell BZ3 x1, keep_cell BZ3 x2, keep_cell BZ3 y0, keep_cell BZ3 y1, keep_cell BZ3 y2, keep_cell BZ3 y3⟩ (fun hHeld => ?_)
                  clear hK K hba
                  (try simp only [Act.put, List.setIfInBounds_toArray, List.set_cons_zero, List.set_cons_succ])
                  generalize Z2.alloc (.cells #[.int .i64 0, .int .i64 0, .slice none 0 0] 24) = Z3 at *
                  generalize Z2.heap.size = g21 at *
                  (try simp only [Act.put, List.setIfInBounds_toArray, List.set_cons_zero, List.set_cons_succ])
                  refine wpAnyH_ready (rs := [8]) (by kernel_rfl) (by simp) ?_
                  refine AllReadyH.cons rfl (fun K hK => ?_) AllReadyH.nil
                  obtain ⟨t0, t1, t2, f0, f1, f2⟩ := G21.three
                  go_simp
                  have HG21 := Lib.hid (blk_three3 (a' := .int .i64 (v : Nat)) (b' := .int .i64 (d : Nat)) (c' := .slice F4 N N) G21)
                  have HT4 := Lib.hid (Fi.txts_far3 (p := .int .i64 (v : Nat)) (q := .int .i64 (d : Nat)) (r := .slice F4 N N) HT4.out G21)
                  have HBx := Lib.hid (below_far (below_far (below_far BZ3 hg21 0 (.int .i64 (v : Nat))) hg21 1 (.int .i64 (d : Nat))) hg21 2 (.slice F4 N N))
                  refine hK.out _ _ ⟨cell_three (keep_cell BZ3 x0) (by simp; omega), cell_three (keep_cell BZ3 x1) (by simp; omega), cell_three (keep_cell BZ3 x2) (by simp; omega), cell_three (keep_cell BZ3 y0) (by simp; omega), cell_three (keep_cell BZ3 y1) (by simp; omega), cell_three (keep_cell BZ3 y2) (by simp; omega), cell_three (keep_cell BZ3 y3) (by simp; omega)⟩ (fun hHeld => ?_)
                  clear hK K t0 t1 t2 f0 f1 f2
                  (try simp only [Act.put, List.setIfInBounds_toArray, List.set_cons_zero, List.set_cons_succ])
                  refine wpAnyH_get 9 (some 22) (.int .i64 0) rfl rfl (by kernel_rfl) (by kernel_rfl) (by kernel_rfl) (fun _ _ _ h => h) (by rfl) hHeld ?_ ?_
                  · (intro w hSw; (try dsimp only at hSw); go_simp; all_goals (try with_reducible rfl))
                  (try simp only [Act.put, List.setIfInBounds_toArray, List.set_cons_zero, List.set_cons_succ])
                  refine wpAnyH_done (by kernel_rfl) ?_ _
                  go_wp2
                  go_meet
                  exact ⟨g21, F4, rfl, rfl, Lib.hid ⟨⟨HG21.out, HT4.out⟩, HBx.out⟩⟩
                · go_simp
                  have hba : Below Z1.heap.size Z1 (Z1.alloc (.cells #[.int .i64 0, .int .i64 0, .slice none 0 0] 24)) := (Below.refl _ _).alloc (Nat.le_refl _) _
                  have BZ5 := below_all BZ1 hba
                  have G21 := Blk.new Z1 24 #[.int .i64 0, .int .i64 0, .slice none 0 0]
                  have hg21 := BZ1.size
        
                  refine hK.out _ _ ⟨keep_cell BZ5 x0, keep_cell BZ5 x1, keep_cell BZ5 x2, keep_cell BZ5 y0, keep_cell BZ5 y1, keep_cell BZ5 y2, keep_cell BZ5 y3⟩ (fun hHeld => ?_)
                  clear hK K hba
                  (try simp only [Act.put, List.setIfInBounds_toArray, List.set_cons_zero, List.set_cons_succ])
                  generalize Z1.alloc (.cells #[.int .i64 0, .int .i64 0, .slice none 0 0] 24) = Z5 at *
                  generalize Z1.heap.size = g21 at *
                  (try simp only [Act.put, List.setIfInBounds_toArray, List.set_cons_zero, List.set_cons_succ])
                  refine wpAnyH_ready (rs := [3]) (by kernel_rfl) (by simp) ?_
                  refine AllReadyH.cons rfl (fun K hK => ?_) AllReadyH.nil
                  go_simp
                  refine (HSC.out _ F1 (below_all HBwF.out BZ5) (Hg15.out.txt.keep BZ5)).mono ?_
                  rintro e Z6 ⟨F4, rfl, hT4, hb⟩
                  (try go_simp)
                  have HT4 := Lib.hid hT4
                  have BZ6 := below_all BZ5 hb
                  have G21 := G21.keep hb G21.lt
                  refine hK.out _ _ ⟨keep_cell BZ6 x0, keep_cell BZ6 x1, keep_cell BZ6 x2, keep_cell BZ6 y0, keep_cell BZ6 y1, keep_cell BZ6 y2, keep_cell BZ6 y3⟩ (fun hHeld => ?_)
                  clear hK K hb hT4
                  (try simp only [Act.put, List.setIfInBounds_toArray, List.set_cons_zero, List.set_cons_succ])
                  refine wpAnyH_get 4 (some 99) (.tuple #[.agg #[.int .i64 (v : Nat), .int .i64 (d : Nat), .slice F4 N N], .int .i64 0]) rfl rfl (by kernel_rfl) (by kernel_rfl) (by kernel_rfl) (fun _ _ _ h => h) (by rfl) hHeld ?_ ?_
                  · (intro w hSw; (try dsimp only at hSw); go_simp; all_goals (try with_reducible rfl))
                  (try simp only [Act.put, List.setIfInBounds_toArray, List.set_cons_zero, List.set_cons_succ])
                  refine wpAnyH_get 5 (some 104) (.agg #[.int .i64 (v : Nat), .int .i64 (d : Nat), .slice F4 N N]) rfl rfl (by kernel_rfl) (by kernel_rfl) (by kernel_rfl) (fun _ _ _ h => h) (by rfl) hHeld ?_ ?_
                  · (intro w hSw; (try dsimp only at hSw); go_simp; all_goals (try with_reducible rfl))
                  (try simp only [Act.put, List.setIfInBounds_toArray, List.set_cons_zero, List.set_cons_succ])
                  refine wpAnyH_get 6 (some 105) (.int .i64 0) rfl rfl (by kernel_rfl) (by kernel_rfl) (by kernel_rfl) (fun _ _ _ h => h) (by rfl) hHeld ?_ ?_
                  · (intro w hSw; (try dsimp only at hSw); go_simp; all_goals (try with_reducible rfl))
                  (try simp only [Act.put, List.setIfInBounds_toArray, List.set_cons_zero, List.set_cons_succ])
                  refine wpAnyH_ready (rs := [8]) (by kernel_rfl) (by simp) ?_
                  refine AllReadyH.cons rfl (fun K hK => ?_) AllReadyH.nil
                  obtain ⟨t0, t1, t2, f0, f1, f2⟩ := G21.three
                  go_simp
                  have HG21 := Lib.hid (blk_three3 (a' := .int .i64 (v : Nat)) (b' := .int .i64 (d : Nat)) (c' := .slice F4 N N) G21)
                  have HT4 := Lib.hid (Fi.txts_far3 (p := .int .i64 (v : Nat)) (q := .int .i64 (d : Nat)) (r := .slice F4 N N) HT4.out G21)
                  have HBx := Lib.hid (below_far (below_far (below_far BZ6 hg21 0 (.int .i64 (v : Nat))) hg21 1 (.int .i64 (d : Nat))) hg21 2 (.slice F4 N N))
                  refine hK.out _ _ ⟨cell_three (keep_cell BZ6 x0) (by simp; omega), cell_three (keep_cell BZ6 x1) (by simp; omega), cell_three (keep_cell BZ6 x2) (by simp; omega), cell_three (keep_cell BZ6 y0) (by simp; omega), cell_three (keep_cell BZ6 y1) (by simp; omega), cell_three (keep_cell BZ6 y2) (by simp; omega), cell_three (keep_cell BZ6 y3) (by simp; omega)⟩ (fun hHeld => ?_)
                  clear hK K t0 t1 t2 f0 f1 f2
                  (try simp only [Act.put, List.setIfInBounds_toArray, List.set_cons_zero, List.set_cons_succ])
                  refine wpAnyH_get 9 (some 22) (.int .i64 0) rfl rfl (by kernel_rfl) (by kernel_rfl) (by kernel_rfl) (fun _ _ _ h => h) (by rfl) hHeld ?_ ?_
                  · (intro w hSw; (try dsimp only at hSw); go_simp; all_goals (try with_reducible rfl))
                  (try simp only [Act.put, List.setIfInBounds_toArray, List.set_cons_zero, List.set_cons_succ])
                  refine wpAnyH_done (by kernel_rfl) ?_ _
                  go_wp2
                  go_meet
                  exact ⟨g21, F4, rfl, rfl, Lib.hid ⟨⟨HG21.out, HT4.out⟩, HBx.out⟩⟩
              · go_simp
                have hba : Below Z.heap.size Z (Z.alloc (.cells #[.int .i64 0, .int .i64 0, .slice none 0 0] 24)) := (Below.refl _ _).alloc (Nat.le_refl _) _
                have BZ8 := below_all BZ hba
                have G21 := Blk.new Z 24 #[.int .i64 0, .int .i64 0, .slice none 0 0]
                have hg21 := BZ.size
      
                refine hK.out _ _ ⟨keep_cell BZ8 x0, keep_cell BZ8 x1, keep_cell BZ8 x2, keep_cell BZ8 y0, keep_cell BZ8 y1, keep_cell BZ8 y2, keep_cell BZ8 y3⟩ (fun hHeld => ?_)
                clear hK K hba
                (try simp only [Act.put, List.setIfInBounds_toArray, List.set_cons_zero, List.set_cons_succ])
                generalize Z.alloc (.cells #[.int .i64 0, .int .i64 0, .slice none 0 0] 24) = Z8 at *
                generalize Z.heap.size = g21 at *
                (try simp only [Act.put, List.setIfInBounds_toArray, List.set_cons_zero, List.set_cons_succ])
                refine wpAnyH_ready (rs := [1]) (by kernel_rfl) (by simp) ?_
                refine AllReadyH.cons rfl (fun K hK => ?_) AllReadyH.nil
                go_simp
                refine (HTXT.out _ (below_all HBwF.out BZ8)).mono ?_
                rintro e Z9 ⟨rfl, hb⟩
                (try go_simp)
                have BZ9 := below_all BZ8 hb
                have G21 := G21.keep hb G21.lt
                refine hK.out _ _ ⟨keep_cell BZ9 x0, keep_cell BZ9 x1, keep_cell BZ9 x2, keep_cell BZ9 y0, keep_cell BZ9 y1, keep_cell BZ9 y2, keep_cell BZ9 y3⟩ (fun hHeld => ?_)
                clear hK K hb
                (try simp only [Act.put, List.setIfInBounds_toArray, List.set_cons_zero, List.set_cons_succ])
                refine wpAnyH_ready (rs := [3]) (by kernel_rfl) (by simp) ?_
                refine AllReadyH.cons rfl (fun K hK => ?_) AllReadyH.nil
                go_simp
                refine (HSC.out _ F1 (below_all HBwF.out BZ9) (Hg15.out.txt.keep BZ9)).mono ?_
                rintro e Z10 ⟨F4, rfl, hT4, hb⟩
                (try go_simp)
                have HT4 := Lib.hid hT4
                have BZ10 := below_all BZ9 hb
                have G21 := G21.keep hb G21.lt
                refine hK.out _ _ ⟨keep_cell BZ10 x0, keep_cell BZ10 x1, keep_cell BZ10 x2, keep_cell BZ10 y0, keep_cell BZ10 y1, keep_cell BZ10 y2, keep_cell BZ10 y3⟩ (fun hHeld => ?_)
                clear hK K hb hT4
                (try simp only [Act.put, List.setIfInBounds_toArray, List.set_cons_zero, List.set_cons_succ])
                refine wpAnyH_get 4 (some 99) (.tuple #[.agg #[.int .i64 (v : Nat), .int .i64 (d : Nat), .slice F4 N N], .int .i64 0]) rfl rfl (by kernel_rfl) (by kernel_rfl) (by kernel_rfl) (fun _ _ _ h => h) (by rfl) hHeld ?_ ?_
                · (intro w hSw; (try dsimp only at hSw); go_simp; all_goals (try with_reducible rfl))
                (try simp only [Act.put, List.setIfInBounds_toArray, List.set_cons_zero, List.set_cons_succ])
                refine wpAnyH_get 5 (some 104) (.agg #[.int .i64 (v : Nat), .int .i64 (d : Nat), .slice F4 N N]) rfl rfl (by kernel_rfl) (by kernel_rfl) (by kernel_rfl) (fun _ _ _ h => h) (by rfl) hHeld ?_ ?_
                · (intro w hSw; (try dsimp only at hSw); go_simp; all_goals (try with_reducible rfl))
                (try simp only [Act.put, List.setIfInBounds_toArray, List.set_cons_zero, List.set_cons_succ])
                refine wpAnyH_get 6 (some 105) (.int .i64 0) rfl rfl (by kernel_rfl) (by kernel_rfl) (by kernel_rfl) (fun _ _ _ h => h) (by rfl) hHeld ?_ ?_
                · (intro w hSw; (try dsimp only at hSw); go_simp; all_goals (try with_reducible rfl))
                (try simp only [Act.put, List.setIfInBounds_toArray, List.set_cons_zero, List.set_cons_succ])
                refine wpAnyH_ready (rs := [8]) (by kernel_rfl) (by simp) ?_
                refine AllReadyH.cons rfl (fun K hK => ?_) AllReadyH.nil
                obtain ⟨t0, t1, t2, f0, f1, f2⟩ := G21.three
                go_simp
                have HG21 := Lib.hid (blk_three3 (a' := .int .i64 (v : Nat)) (b' := .int .i64 (d : Nat)) (c' := .slice F4 N N) G21)
                have HT4 := Lib.hid (Fi.txts_far3 (p := .int .i64 (v : Nat)) (q := .int .i64 (d : Nat)) (r := .slice F4 N N) HT4.out G21)
                have HBx := Lib.hid (below_far (below_far (below_far BZ10 hg21 0 (.int .i64 (v : Nat))) hg21 1 (.int .i64 (d : Nat))) hg21 2 (.slice F4 N N))
                refine hK.out _ _ ⟨cell_three (keep_cell BZ10 x0) (by simp; omega), cell_three (keep_cell BZ10 x1) (by simp; omega), cell_three (keep_cell BZ10 x2) (by simp; omega), cell_three (keep_cell BZ10 y0) (by simp; omega), cell_three (keep_cell BZ10 y1) (by simp; omega), cell_three (keep_cell BZ10 y2) (by simp; omega), cell_three (keep_cell BZ10 y3) (by simp; omega)⟩ (fun hHeld => ?_)
                clear hK K t0 t1 t2 f0 f1 f2
                (try simp only [Act.put, List.setIfInBounds_toArray, List.set_cons_zero, List.set_cons_succ])
                refine wpAnyH_get 9 (some 22) (.int .i64 0) rfl rfl (by kernel_rfl) (by kernel_rfl) (by kernel_rfl) (fun _ _ _ h => h) (by rfl) hHeld ?_ ?_
                · (intro w hSw; (try dsimp only at hSw); go_simp; all_goals (try with_reducible rfl))
                (try simp only [Act.put, List.setIfInBounds_toArray, List.set_cons_zero, List.set_cons_succ])
                refine wpAnyH_done (by kernel_rfl) ?_ _
                go_wp2
                go_meet
                exact ⟨g21, F4, rfl, rfl, Lib.hid ⟨⟨HG21.out, HT4.out⟩, HBx.out⟩⟩
  
          obtain ⟨g21, F4, rfl, rfl, HC⟩ := hcut
          obtain ⟨wG, rfl⟩ : ∃ x : World, x = wc := ⟨_, rfl⟩
          have Hg21 := Lib.hid HC.out.1
          have HBwG := Lib.hid (below_all HBwF.out HC.out.2)
          have Hg15 := Lib.hid (Hg15.out.keep HC.out.2)
          have Hg17 := Lib.hid (Hg17.out.keep HC.out.2)
          have Hg19 := Lib.hid (Hg19.out.keep HC.out.2)
          clear HC HBwF x0 x1 x2 y0 y1 y2 y3 hl15 hl10 HSC HTXT
          go_wp2_with (fail)
          refine (HRO1.out _ HBwG.out).mono ?_
          rintro e w22 ⟨L1, cl1, rs1, rfl, hQ1, hl1', hq1, hb22⟩
          have HLr1 := Lib.hid hl1'
          have HQr1 := Lib.hid hq1
          have HQQ1 := Lib.hid hQ1
          have HB22 := Lib.hid hb22
          clear hl1' hq1 hQ1 hb22
          go_wp2_with (fail)
          refine (HRO2.out _ (below_all HBwG.out HB22.out)).mono ?_
          rintro e w23 ⟨L2, cl2, rs2, rfl, hQ2, hl2', hq2, hb23⟩
          have HLr2 := Lib.hid hl2'
          have HQr2 := Lib.hid hq2
          have HQQ2 := Lib.hid hQ2
          have HB23 := Lib.hid hb23
          clear hl2' hq2 hQ2 hb23
          go_upto_region 22 with (fail)

          have hne34 : w23.heap.size ≠ w23.heap.size + 1 := by omega
          have hA1 := (Below.refl w23.heap.size w23).alloc (Nat.le_refl _) (.cells #[.int .i64 (v : Nat), .int .i64 (d : Nat), .slice L1 N cl1] 29)
          have hA2 := (Below.refl (w23.alloc (.cells #[.int .i64 (v : Nat), .int .i64 (d : Nat), .slice L1 N cl1] 29)).heap.size _).alloc (Nat.le_refl _) (.cells #[.int .i64 (v : Nat), .int .i64 (d : Nat), .slice L2 N cl2] 29)
          have hA := below_all hA1 hA2
          have hbG := below_all HB22.out (below_all HB23.out hA)
          have Hg23 : Hid (LAt ((w23.alloc (.cells #[.int .i64 (v : Nat), .int .i64 (d : Nat), .slice L1 N cl1] 29)).alloc (.cells #[.int .i64 (v : Nat), .int .i64 (d : Nat), .slice L2 N cl2] 29)) w23.heap.size v d N L1 cl1 rs1 qa) := Lib.hid ⟨(Blk.new _ _ _).alloc _, HQQ1.out.keep (below_all HB23.out hA), HLr1.out, HQr1.out⟩
          have Hg24 : Hid (LAt ((w23.alloc (.cells #[.int .i64 (v : Nat), .int .i64 (d : Nat), .slice L1 N cl1] 29)).alloc (.cells #[.int .i64 (v : Nat), .int .i64 (d : Nat), .slice L2 N cl2] 29)) (w23.heap.size + 1) v d N L2 cl2 rs2 qb) := Lib.hid ⟨blk_new1 _ _ _ _, HQQ2.out.keep hA, HLr2.out, HQr2.out⟩
          have HBwH := Lib.hid (below_all HBwG.out hbG)
          have Hg15 := Lib.hid (Hg15.out.keep hbG)
          have Hg17 := Lib.hid (Hg17.out.keep hbG)
          have Hg19 := Lib.hid (Hg19.out.keep hbG)
          have Hg21 := Lib.hid (Hg21.out.keep hbG)
          clear hA1 hA2 hA hbG HLr1 HQr1 HQQ1 HLr2 HQr2 HQQ2 HB22 HB23 HBwG HRO1 HRO2
          generalize (w23.alloc (.cells #[.int .i64 (v : Nat), .int .i64 (d : Nat), .slice L1 N cl1] 29)).alloc (.cells #[.int .i64 (v : Nat), .int .i64 (d : Nat), .slice L2 N cl2] 29) = wH at *
          generalize w23.heap.size + 1 = g24 at *
          generalize w23.heap.size = g23 at *
          have HWR1 : Hid (∀ V, Below wH.heap.size wH V → Calls Tryz.prog 24 #[.agg #[.int .i64 (v : Nat), .int .i64 (d : Nat), .slice L1 N cl1]] V fun e w' => ∃ B, e = .returned (.agg #[.int .i64 (v : Nat), .int .i64 (d : Nat), .slice B N N]) ∧ Txts w' B qa ∧ Below V.heap.size V w') := Lib.hid (fun V h => lo_write v d Hg23.out.len Hg23.out.q HSA.out (by omega) L1 cl1 V (Hg23.out.qsat.keep h))
          have HWR2 : Hid (∀ V, Below wH.heap.size wH V → Calls Tryz.prog 24 #[.agg #[.int .i64 (v : Nat), .int .i64 (d : Nat), .slice L2 N cl2]] V fun e w' => ∃ B, e = .returned (.agg #[.int .i64 (v : Nat), .int .i64 (d : Nat), .slice B N N]) ∧ Txts w' B qb ∧ Below V.heap.size V w') := Lib.hid (fun V h => lo_write v d Hg24.out.len Hg24.out.q HSB.out (by omega) L2 cl2 V (Hg24.out.qsat.keep h))

          have HSM1 : Hid (∀ V A B, Txts V A qa → Txts V B qa → Calls Tryz.prog 14 #[.agg #[.int .i64 (v : Nat), .int .i64 (d : Nat), .slice A N N], .agg #[.int .i64 (v : Nat), .int .i64 (d : Nat), .slice B N N]] V fun e w' => e = .returned (.bool true) ∧ Below V.heap.size V w') := Lib.hid (fun V A B hA hB => lo_same v d HLA.out (by omega) A B N N V hA hB)
          have HSM2 : Hid (∀ V A B, Txts V A qb → Txts V B qb → Calls Tryz.prog 14 #[.agg #[.int .i64 (v : Nat), .int .i64 (d : Nat), .slice A N N], .agg #[.int .i64 (v : Nat), .int .i64 (d : Nat), .slice B N N]] V fun e w' => e = .returned (.bool true) ∧ Below V.heap.size V w') := Lib.hid (fun V A B hA hB => lo_same v d HLB.out (by omega) A B N N V hA hB)

          have hw24 : g23 ≠ g24 := hne34
          obtain ⟨x0, x1, x2, _, _, _⟩ := Hg15.out.blk.three
          obtain ⟨y0, y1, y2, _, _, _⟩ := Hg23.out.blk.three
          obtain ⟨z0, z1, z2, _, _, _⟩ := Hg17.out.blk.three
          obtain ⟨u0, u1, u2, _, _, _⟩ := Hg24.out.blk.three
          go_cut [141] (fun s141 wx => s141 = .bool false ∧ Hid (Below wH.heap.size wH wx))
          case first =>
            as_aux_lemma =>
              have BZ : Below wH.heap.size wH wH.drew := (Below.refl _ _).drew
              refine wp_region_held_drew (S := (fun w' => w'.cell? ⟨g15, 0, none⟩ = some (.int .i64 (v : Nat)) ∧ w'.cell? ⟨g15, 1, none⟩ = some (.int .i64 (d : Nat)) ∧ w'.cell? ⟨g15, 2, none⟩ = some (.slice F1 N N) ∧ w'.cell? ⟨g23, 0, none⟩ = some (.int .i64 (v : Nat)) ∧ w'.cell? ⟨g23, 1, none⟩ = some (.int .i64 (d : Nat)) ∧ w'.cell? ⟨g23, 2, none⟩ = some (.slice L1 N cl1) ∧ w'.cell? ⟨g17, 0, none⟩ = some (.int .i64 (v : Nat)) ∧ w'.cell? ⟨g17, 1, none⟩ = some (.int .i64 (d : Nat)) ∧ w'.cell? ⟨g17, 2, none⟩ = some (.slice F2 N N) ∧ w'.cell? ⟨g24, 0, none⟩ = some (.int .i64 (v : Nat)) ∧ w'.cell? ⟨g24, 1, none⟩ = some (.int .i64 (d : Nat)) ∧ w'.cell? ⟨g24, 2, none⟩ = some (.slice L2 N cl2))) (by kernel_rfl) ⟨keep_cell BZ x0, keep_cell BZ x1, keep_cell BZ x2, keep_cell BZ y0, keep_cell BZ y1, keep_cell BZ y2, keep_cell BZ z0, keep_cell BZ z1, keep_cell BZ z2, keep_cell BZ u0, keep_cell BZ u1, keep_cell BZ u2⟩ (fun hHeld => ?_)
              generalize wH.drew = Z at *
              refine wpAnyH_get 0 (some 114) (.int .i64 0) rfl rfl (by kernel_rfl) (by kernel_rfl) (by kernel_rfl) (fun _ _ _ h => h) (by rfl) hHeld ?_ ?_
              · (intro w hSw; (try dsimp only at hSw); go_simp; all_goals (try with_reducible rfl))
              (try simp only [Act.put, List.setIfInBounds_toArray, List.set_cons_zero, List.set_cons_succ])
              refine wpAnyH_get 1 (some 115) (.bool false) rfl rfl (by kernel_rfl) (by kernel_rfl) (by kernel_rfl) (fun _ _ _ h => h) (by rfl) hHeld ?_ ?_
              · (intro w hSw; (try dsimp only at hSw); go_simp; all_goals (try with_reducible rfl))
              (try simp only [Act.put, List.setIfInBounds_toArray, List.set_cons_zero, List.set_cons_succ])
              refine wpAnyH_get 2 (some 116) (.bool false) rfl rfl (by kernel_rfl) (by kernel_rfl) (by kernel_rfl) (fun _ _ _ h => h) (by rfl) hHeld ?_ ?_
              · (intro w hSw; (try dsimp only at hSw); go_simp; all_goals (try with_reducible rfl))
              (try simp only [Act.put, List.setIfInBounds_toArray, List.set_cons_zero, List.set_cons_succ])
              refine wpAnyH_get 3 (some 117) (.int .i64 0) rfl rfl (by kernel_rfl) (by kernel_rfl) (by kernel_rfl) (fun _ _ _ h => h) (by rfl) hHeld ?_ ?_
              · (intro w hSw; (try dsimp only at hSw); go_simp; all_goals (try with_reducible rfl))
              (try simp only [Act.put, List.setIfInBounds_toArray, List.set_cons_zero, List.set_cons_succ])
              refine wpAnyH_get 4 (some 118) (.bool false) rfl rfl (by kernel_rfl) (by kernel_rfl) (by kernel_rfl) (fun _ _ _ h => h) (by rfl) hHeld ?_ ?_
              · (intro w hSw; (try dsimp only at hSw); go_simp; all_goals (try with_reducible rfl))
              (try simp only [Act.put, List.setIfInBounds_toArray, List.set_cons_zero, List.set_cons_succ])
              refine wpAnyH_get 5 (some 119) (.bool false) rfl rfl (by kernel_rfl) (by kernel_rfl) (by kernel_rfl) (fun _ _ _ h => h) (by rfl) hHeld ?_ ?_
              · (intro w hSw; (try dsimp only at hSw); go_simp; all_goals (try with_reducible rfl))
              (try simp only [Act.put, List.setIfInBounds_toArray, List.set_cons_zero, List.set_cons_succ])
              refine wpAnyH_get 6 (some 120) (.bool false) rfl rfl (by kernel_rfl) (by kernel_rfl) (by kernel_rfl) (fun _ _ _ h => h) (by rfl) hHeld ?_ ?_
              · (intro w hSw; (try dsimp only at hSw); go_simp; all_goals (try with_reducible rfl))
              (try simp only [Act.put, List.setIfInBounds_toArray, List.set_cons_zero, List.set_cons_succ])
              refine wpAnyH_get 7 (some 121) (.int .i64 0) rfl rfl (by kernel_rfl) (by kernel_rfl) (by kernel_rfl) (fun _ _ _ h => h) (by rfl) hHeld ?_ ?_
              · (intro w hSw; (try dsimp only at hSw); go_simp; all_goals (try with_reducible rfl))
              (try simp only [Act.put, List.setIfInBounds_toArray, List.set_cons_zero, List.set_cons_succ])
              refine wpAnyH_get 8 (some 122) (.bool false) rfl rfl (by kernel_rfl) (by kernel_rfl) (by kernel_rfl) (fun _ _ _ h => h) (by rfl) hHeld ?_ ?_
              · (intro w hSw; (try dsimp only at hSw); go_simp; all_goals (try with_reducible rfl))
              (try simp only [Act.put, List.setIfInBounds_toArray, List.set_cons_zero, List.set_cons_succ])
              refine wpAnyH_get 9 (some 123) (.bool false) rfl rfl (by kernel_rfl) (by kernel_rfl) (by kernel_rfl) (fun _ _ _ h => h) (by rfl) hHeld ?_ ?_
              · (intro w hSw; (try dsimp only at hSw); go_simp; all_goals (try with_reducible rfl))
              (try simp only [Act.put, List.setIfInBounds_toArray, List.set_cons_zero, List.set_cons_succ])
              refine wpAnyH_get 10 (some 124) (.bool false) rfl rfl (by kernel_rfl) (by kernel_rfl) (by kernel_rfl) (fun _ _ _ h => h) (by rfl) hHeld ?_ ?_
              · (intro w hSw; (try dsimp only at hSw); go_simp; all_goals (try with_reducible rfl))
              (try simp only [Act.put, List.setIfInBounds_toArray, List.set_cons_zero, List.set_cons_succ])
              refine wpAnyH_get 11 (some 125) (.int .i64 0) rfl rfl (by kernel_rfl) (by kernel_rfl) (by kernel_rfl) (fun _ _ _ h => h) (by rfl) hHeld ?_ ?_
              · (intro w hSw; (try dsimp only at hSw); go_simp; all_goals (try with_reducible rfl))
              (try simp only [Act.put, List.setIfInBounds_toArray, List.set_cons_zero, List.set_cons_succ])
              refine wpAnyH_get 12 (some 126) (.bool false) rfl rfl (by kernel_rfl) (by kernel_rfl) (by kernel_rfl) (fun _ _ _ h => h) (by rfl) hHeld ?_ ?_
              · (intro w hSw; (try dsimp only at hSw); go_simp; all_goals (try with_reducible rfl))
              (try simp only [Act.put, List.setIfInBounds_toArray, List.set_cons_zero, List.set_cons_succ])
              refine wpAnyH_get 13 (some 127) (.bool false) rfl rfl (by kernel_rfl) (by kernel_rfl) (by kernel_rfl) (fun _ _ _ h => h) (by rfl) hHeld ?_ ?_
              · (intro w hSw; (try dsimp only at hSw); go_simp; all_goals (try with_reducible rfl))
              (try simp only [Act.put, List.setIfInBounds_toArray, List.set_cons_zero, List.set_cons_succ])
              refine wpAnyH_get 14 (some 128) (.bool false) rfl rfl (by kernel_rfl) (by kernel_rfl) (by kernel_rfl) (fun _ _ _ h => h) (by rfl) hHeld ?_ ?_
              · (intro w hSw; (try dsimp only at hSw); go_simp; all_goals (try with_reducible rfl))
              (try simp only [Act.put, List.setIfInBounds_toArray, List.set_cons_zero, List.set_cons_succ])
              refine wpAnyH_get 15 (some 129) (.agg #[.int .i64 (v : Nat), .int .i64 (d : Nat), .slice F1 N N]) rfl rfl (by kernel_rfl) (by kernel_rfl) (by kernel_rfl) (fun _ _ _ h => h) (by rfl) hHeld ?_ ?_
              · (intro w hSw; (try dsimp only at hSw); go_simp; all_goals (try with_reducible rfl))
              (try simp only [Act.put, List.setIfInBounds_toArray, List.set_cons_zero, List.set_cons_succ])
              refine wpAnyH_get 16 (some 130) (.agg #[.int .i64 (v : Nat), .int .i64 (d : Nat), .slice L1 N cl1]) rfl rfl (by kernel_rfl) (by kernel_rfl) (by kernel_rfl) (fun _ _ _ h => h) (by rfl) hHeld ?_ ?_
              · (intro w hSw; (try dsimp only at hSw); go_simp; all_goals (try with_reducible rfl))
              (try simp only [Act.put, List.setIfInBounds_toArray, List.set_cons_zero, List.set_cons_succ])
              refine wpAnyH_ready (rs := [17]) (by kernel_rfl) (by simp) ?_
              refine AllReadyH.cons rfl (fun K hK => ?_) AllReadyH.nil
              go_simp
              refine (HWR1.out _ BZ).mono ?_
              rintro e w24 ⟨T1, rfl, hTT1, hb⟩
              (try go_simp)
              have HTT1 := Lib.hid hTT1
              have BZ := below_all BZ hb
              refine hK.out _ _ ⟨keep_cell BZ x0, keep_cell BZ x1, keep_cell BZ x2, keep_cell BZ y0, keep_cell BZ y1, keep_cell BZ y2, keep_cell BZ z0, keep_cell BZ z1, keep_cell BZ z2, keep_cell BZ u0, keep_cell BZ u1, keep_cell BZ u2⟩ (fun hHeld => ?_)
              clear hK K hb hTT1
              (try simp only [Act.put, List.setIfInBounds_toArray, List.set_cons_zero, List.set_cons_succ])
              refine wpAnyH_ready (rs := [18]) (by kernel_rfl) (by simp) ?_
              refine AllReadyH.cons rfl (fun K hK => ?_) AllReadyH.nil
              go_simp
              refine (HSM1.out _ F1 T1 (Hg15.out.txt.keep BZ) HTT1.out).mono ?_
              rintro e w25 ⟨rfl, hb⟩
              (try go_simp)
              have BZ := below_all BZ hb
              refine hK.out _ _ ⟨keep_cell BZ x0, keep_cell BZ x1, keep_cell BZ x2, keep_cell BZ y0, keep_cell BZ y1, keep_cell BZ y2, keep_cell BZ z0, keep_cell BZ z1, keep_cell BZ z2, keep_cell BZ u0, keep_cell BZ u1, keep_cell BZ u2⟩ (fun hHeld => ?_)
              clear hK K hb HTT1
              (try simp only [Act.put, List.setIfInBounds_toArray, List.set_cons_zero, List.set_cons_succ])
              refine wpAnyH_get 19 (some 133) (.bool false) rfl rfl (by kernel_rfl) (by kernel_rfl) (by kernel_rfl) (fun _ _ _ h => h) (by rfl) hHeld ?_ ?_
              · (intro w hSw; (try dsimp only at hSw); go_simp; all_goals (try with_reducible rfl))
              (try simp only [Act.put, List.setIfInBounds_toArray, List.set_cons_zero, List.set_cons_succ])
              refine wpAnyH_get 20 (some 134) (.bool false) rfl rfl (by kernel_rfl) (by kernel_rfl) (by kernel_rfl) (fun _ _ _ h => h) (by rfl) hHeld ?_ ?_
              · (intro w hSw; (try dsimp only at hSw); go_simp; all_goals (try with_reducible rfl))
              (try simp only [Act.put, List.setIfInBounds_toArray, List.set_cons_zero, List.set_cons_succ])
              refine wpAnyH_get 21 (some 135) (.bool false) rfl rfl (by kernel_rfl) (by kernel_rfl) (by kernel_rfl) (fun _ _ _ h => h) (by rfl) hHeld ?_ ?_
              · (intro w hSw; (try dsimp only at hSw); go_simp; all_goals (try with_reducible rfl))
              (try simp only [Act.put, List.setIfInBounds_toArray, List.set_cons_zero, List.set_cons_succ])
              refine wpAnyH_get 22 (some 136) (.agg #[.int .i64 (v : Nat), .int .i64 (d : Nat), .slice F2 N N]) rfl rfl (by kernel_rfl) (by kernel_rfl) (by kernel_rfl) (fun _ _ _ h => h) (by rfl) hHeld ?_ ?_
              · (intro w hSw; (try dsimp only at hSw); go_simp; all_goals (try with_reducible rfl))
              (try simp only [Act.put, List.setIfInBounds_toArray, List.set_cons_zero, List.set_cons_succ])
              refine wpAnyH_get 23 (some 137) (.agg #[.int .i64 (v : Nat), .int .i64 (d : Nat), .slice L2 N cl2]) rfl rfl (by kernel_rfl) (by kernel_rfl) (by kernel_rfl) (fun _ _ _ h => h) (by rfl) hHeld ?_ ?_
              · (intro w hSw; (try dsimp only at hSw); go_simp; all_goals (try with_reducible rfl))
              (try simp only [Act.put, List.setIfInBounds_toArray, List.set_cons_zero, List.set_cons_succ])
              refine wpAnyH_ready (rs := [24]) (by kernel_rfl) (by simp) ?_
              refine AllReadyH.cons rfl (fun K hK => ?_) AllReadyH.nil
              go_simp
              refine (HWR2.out _ BZ).mono ?_
              rintro e w26 ⟨T2, rfl, hTT2, hb⟩
              (try go_simp)
              have HTT2 := Lib.hid hTT2
              have BZ := below_all BZ hb
              refine hK.out _ _ ⟨keep_cell BZ x0, keep_cell BZ x1, keep_cell BZ x2, keep_cell BZ y0, keep_cell BZ y1, keep_cell BZ y2, keep_cell BZ z0, keep_cell BZ z1, keep_cell BZ z2, keep_cell BZ u0, keep_cell BZ u1, keep_cell BZ u2⟩ (fun hHeld => ?_)
              clear hK K hb hTT2
              (try simp only [Act.put, List.setIfInBounds_toArray, List.set_cons_zero, List.set_cons_succ])
              refine wpAnyH_ready (rs := [25]) (by kernel_rfl) (by simp) ?_
              refine AllReadyH.cons rfl (fun K hK => ?_) AllReadyH.nil
              go_simp
              refine (HSM2.out _ F2 T2 (Hg17.out.txt.keep BZ) HTT2.out).mono ?_
              rintro e w27 ⟨rfl, hb⟩
              (try go_simp)
              have BZ := below_all BZ hb
              refine hK.out _ _ ⟨keep_cell BZ x0, keep_cell BZ x1, keep_cell BZ x2, keep_cell BZ y0, keep_cell BZ y1, keep_cell BZ y2, keep_cell BZ z0, keep_cell BZ z1, keep_cell BZ z2, keep_cell BZ u0, keep_cell BZ u1, keep_cell BZ u2⟩ (fun hHeld => ?_)
              clear hK K hb HTT2
              (try simp only [Act.put, List.setIfInBounds_toArray, List.set_cons_zero, List.set_cons_succ])
              refine wpAnyH_get 26 (some 140) (.bool false) rfl rfl (by kernel_rfl) (by kernel_rfl) (by kernel_rfl) (fun _ _ _ h => h) (by rfl) hHeld ?_ ?_
              · (intro w hSw; (try dsimp only at hSw); go_simp; all_goals (try with_reducible rfl))
              (try simp only [Act.put, List.setIfInBounds_toArray, List.set_cons_zero, List.set_cons_succ])
              refine wpAnyH_get 27 (some 141) (.bool false) rfl rfl (by kernel_rfl) (by kernel_rfl) (by kernel_rfl) (fun _ _ _ h => h) (by rfl) hHeld ?_ ?_
              · (intro w hSw; (try dsimp only at hSw); go_simp; all_goals (try with_reducible rfl))
              (try simp only [Act.put, List.setIfInBounds_toArray, List.set_cons_zero, List.set_cons_succ])
              refine wpAnyH_done (by kernel_rfl) ?_ _
  
              have HBZ := Lib.hid BZ
              go_wp2
              go_meet
              exact ⟨rfl, HBZ⟩
          obtain ⟨hs141, HC⟩ := hcut
          subst hs141
          have BZ := HC.out
          have HBwI := Lib.hid (below_all HBwH.out BZ)
          have Hg19 := Lib.hid (Hg19.out.keep BZ)
          have Hg21 := Lib.hid (Hg21.out.keep BZ)
          have Hg23 := Lib.hid (Hg23.out.keep BZ)
          have Hg24 := Lib.hid (Hg24.out.keep BZ)
          obtain ⟨wI, rfl⟩ : ∃ x : World, x = wc := ⟨_, rfl⟩
          clear BZ HC x0 x1 x2 y0 y1 y2 z0 z1 z2 u0 u1 u2 Hg15 Hg17 HWR1 HWR2 HSM1 HSM2 HBwH
          go_upto_region 24 with (fail)

          obtain ⟨y0, y1, y2, _, _, _⟩ := Hg23.out.blk.three
          go_cut [25, 26] (fun s25 s26 wx => ∃ g25 g26 : Nat, s25 = .pointer (some ⟨g25, 0, none⟩) ∧ s26 = .pointer (some ⟨g26, 0, none⟩) ∧ g25 ≠ g26 ∧ wI.heap.size ≤ g25 ∧ wI.heap.size ≤ g26 ∧ Hid (Blk wx g25 29 #[.int .i64 (v : Nat), .int .i64 (d : Nat), .slice L1 N cl1] ∧ Blk wx g26 29 #[.int .i64 (v : Nat), .int .i64 (d : Nat), .slice L1 N cl1] ∧ Below wI.heap.size wI wx))
          case first =>
            as_aux_lemma =>
              have BZ : Below wI.heap.size wI wI.drew := (Below.refl _ _).drew
              refine wp_region_held_drew (S := (fun w' => w'.cell? ⟨g23, 0, none⟩ = some (.int .i64 (v : Nat)) ∧ w'.cell? ⟨g23, 1, none⟩ = some (.int .i64 (d : Nat)) ∧ w'.cell? ⟨g23, 2, none⟩ = some (.slice L1 N cl1))) (by kernel_rfl) ⟨keep_cell BZ y0, keep_cell BZ y1, keep_cell BZ y2⟩ (fun hHeld => ?_)
              generalize wI.drew = Z at *
              refine wpAnyH_get 0 (some 142) (.agg #[.int .i64 (v : Nat), .int .i64 (d : Nat), .slice L1 N cl1]) rfl rfl (by kernel_rfl) (by kernel_rfl) (by kernel_rfl) (fun _ _ _ h => h) (by rfl) hHeld ?_ ?_
              · (intro w hSw; (try dsimp only at hSw); go_simp; all_goals (try with_reducible rfl))
              (try simp only [Act.put, List.setIfInBounds_toArray, List.set_cons_zero, List.set_cons_succ])
              refine wpAnyH_get 1 (some 143) (.agg #[.int .i64 (v : Nat), .int .i64 (d : Nat), .slice L1 N cl1]) rfl rfl (by kernel_rfl) (by kernel_rfl) (by kernel_rfl) (fun _ _ _ h => h) (by rfl) hHeld ?_ ?_
              · (intro w hSw; (try dsimp only at hSw); go_simp; all_goals (try with_reducible rfl))
              (try simp only [Act.put, List.setIfInBounds_toArray, List.set_cons_zero, List.set_cons_succ])
              refine wpAnyH_ready (rs := [2, 3]) (by kernel_rfl) (by simp) ?_
              refine AllReadyH.cons rfl (fun K hK => ?_) (AllReadyH.cons rfl (fun K hK => ?_) AllReadyH.nil)
              · go_simp
                have hba : Below Z.heap.size Z (Z.alloc (.cells #[.int .i64 0, .int .i64 0, .slice none 0 0] 29)) := (Below.refl _ _).alloc (Nat.le_refl _) _
                have hltx : Z.heap.size < (Z.alloc (.cells #[.int .i64 0, .int .i64 0, .slice none 0 0] 29)).heap.size := by simp
                have BZ1 := below_all BZ hba
                have G25 := Blk.new Z 29 #[.int .i64 0, .int .i64 0, .slice none 0 0]
                have hg25 := BZ.size
                refine hK.out _ _ ⟨keep_cell BZ1 y0, keep_cell BZ1 y1, keep_cell BZ1 y2⟩ (fun hHeld => ?_)
                clear hK K hba
                (try simp only [Act.put, List.setIfInBounds_toArray, List.set_cons_zero, List.set_cons_succ])
                generalize Z.alloc (.cells #[.int .i64 0, .int .i64 0, .slice none 0 0] 29) = Z1 at *
                generalize Z.heap.size = g25 at *
                have hlt25 := hltx
                clear hltx
                (try simp only [Act.put, List.setIfInBounds_toArray, List.set_cons_zero, List.set_cons_succ])
                refine wpAnyH_ready (rs := [3]) (by kernel_rfl) (by simp) ?_
                refine AllReadyH.cons rfl (fun K hK => ?_) AllReadyH.nil
                go_simp
                have hba : Below Z1.heap.size Z1 (Z1.alloc (.cells #[.int .i64 0, .int .i64 0, .slice none 0 0] 29)) := (Below.refl _ _).alloc (Nat.le_refl _) _
                have hltx : Z1.heap.size < (Z1.alloc (.cells #[.int .i64 0, .int .i64 0, .slice none 0 0] 29)).heap.size := by simp
                have BZ2 := below_all BZ1 hba
                have G25 := G25.keep hba G25.lt
                have hne56 : g25 ≠ Z1.heap.size := Nat.ne_of_lt hlt25
                have G26 := Blk.new Z1 29 #[.int .i64 0, .int .i64 0, .slice none 0 0]
                have hg26 := BZ1.size
                refine hK.out _ _ ⟨keep_cell BZ2 y0, keep_cell BZ2 y1, keep_cell BZ2 y2⟩ (fun hHeld => ?_)
                clear hK K hba
                (try simp only [Act.put, List.setIfInBounds_toArray, List.set_cons_zero, List.set_cons_succ])
                generalize Z1.alloc (.cells #[.int .i64 0, .int .i64 0, .slice none 0 0] 29) = Z2 at *
                generalize Z1.heap.size = g26 at *
                have hlt26 := hltx
                clear hltx
                (try simp only [Act.put, List.setIfInBounds_toArray, List.set_cons_zero, List.set_cons_succ])
                refine wpAnyH_ready (rs := [4]) (by kernel_rfl) (by simp) ?_
                refine AllReadyH.cons rfl (fun K hK => ?_) AllReadyH.nil
                obtain ⟨t0, t1, t2, f0, f1, f2⟩ := G25.three
                go_simp
                have G25x := blk_three3 (a' := .int .i64 (v : Nat)) (b' := .int .i64 (d : Nat)) (c' := .slice L1 N cl1) G25
                have G26x := blk_three_far (a' := .int .i64 (v : Nat)) (b' := .int .i64 (d : Nat)) (c' := .slice L1 N cl1) G26 (show g26 ≠ g25 by omega)
                have BZ3 := below_far (below_far (below_far BZ2 hg25 0 (.int .i64 (v : Nat))) hg25 1 (.int .i64 (d : Nat))) hg25 2 (.slice L1 N cl1)
                clear G25 G26 t0 t1 t2 f0 f1 f2
                have G25 := G25x
                have G26 := G26x
                refine hK.out _ _ ⟨keep_cell BZ3 y0, keep_cell BZ3 y1, keep_cell BZ3 y2⟩ (fun hHeld => ?_)
                clear hK K G25x G26x
                (try simp only [Act.put, List.setIfInBounds_toArray, List.set_cons_zero, List.set_cons_succ])
                generalize (((Z2.setCell ⟨g25, 0, none⟩ (.int .i64 (v : Nat))).setCell ⟨g25, 1, none⟩ (.int .i64 (d : Nat))).setCell ⟨g25, 2, none⟩ (.slice L1 N cl1)) = Z3 at *
                (try simp only [Act.put, List.setIfInBounds_toArray, List.set_cons_zero, List.set_cons_succ])
                refine wpAnyH_ready (rs := [5]) (by kernel_rfl) (by simp) ?_
                refine AllReadyH.cons rfl (fun K hK => ?_) AllReadyH.nil
                obtain ⟨t0, t1, t2, f0, f1, f2⟩ := G26.three
                go_simp
                have G26x := blk_three3 (a' := .int .i64 (v : Nat)) (b' := .int .i64 (d : Nat)) (c' := .slice L1 N cl1) G26
                have G25x := blk_three_far (a' := .int .i64 (v : Nat)) (b' := .int .i64 (d : Nat)) (c' := .slice L1 N cl1) G25 (show g25 ≠ g26 by omega)
                have BZ4 := below_far (below_far (below_far BZ3 hg26 0 (.int .i64 (v : Nat))) hg26 1 (.int .i64 (d : Nat))) hg26 2 (.slice L1 N cl1)
                clear G26 G25 t0 t1 t2 f0 f1 f2
                have G26 := G26x
                have G25 := G25x
                refine hK.out _ _ ⟨keep_cell BZ4 y0, keep_cell BZ4 y1, keep_cell BZ4 y2⟩ (fun hHeld => ?_)
                clear hK K G26x G25x
                (try simp only [Act.put, List.setIfInBounds_toArray, List.set_cons_zero, List.set_cons_succ])
                generalize (((Z3.setCell ⟨g26, 0, none⟩ (.int .i64 (v : Nat))).setCell ⟨g26, 1, none⟩ (.int .i64 (d : Nat))).setCell ⟨g26, 2, none⟩ (.slice L1 N cl1)) = Z4 at *
                (try simp only [Act.put, List.setIfInBounds_toArray, List.set_cons_zero, List.set_cons_succ])
                refine wpAnyH_done (by kernel_rfl) ?_ _
                have HG25 := Lib.hid G25
                have HG26 := Lib.hid G26
                have HBx := Lib.hid BZ4
                go_wp2
                go_meet
                exact ⟨g25, g26, rfl, rfl, by omega, hg25, hg26, Lib.hid ⟨HG25.out, HG26.out, HBx.out⟩⟩
              · go_simp
                have hba : Below Z.heap.size Z (Z.alloc (.cells #[.int .i64 0, .int .i64 0, .slice none 0 0] 29)) := (Below.refl _ _).alloc (Nat.le_refl _) _
                have hltx : Z.heap.size < (Z.alloc (.cells #[.int .i64 0, .int .i64 0, .slice none 0 0] 29)).heap.size := by simp
                have BZ5 := below_all BZ hba
                have G26 := Blk.new Z 29 #[.int .i64 0, .int .i64 0, .slice none 0 0]
                have hg26 := BZ.size
                refine hK.out _ _ ⟨keep_cell BZ5 y0, keep_cell BZ5 y1, keep_cell BZ5 y2⟩ (fun hHeld => ?_)
                clear hK K hba
                (try simp only [Act.put, List.setIfInBounds_toArray, List.set_cons_zero, List.set_cons_succ])
                generalize Z.alloc (.cells #[.int .i64 0, .int .i64 0, .slice none 0 0] 29) = Z5 at *
                generalize Z.heap.size = g26 at *
                have hlt26 := hltx
                clear hltx
                (try simp only [Act.put, List.setIfInBounds_toArray, List.set_cons_zero, List.set_cons_succ])
                refine wpAnyH_ready (rs := [2]) (by kernel_rfl) (by simp) ?_
                refine AllReadyH.cons rfl (fun K hK => ?_) AllReadyH.nil
                go_simp
                have hba : Below Z5.heap.size Z5 (Z5.alloc (.cells #[.int .i64 0, .int .i64 0, .slice none 0 0] 29)) := (Below.refl _ _).alloc (Nat.le_refl _) _
                have hltx : Z5.heap.size < (Z5.alloc (.cells #[.int .i64 0, .int .i64 0, .slice none 0 0] 29)).heap.size := by simp
                have BZ6 := below_all BZ5 hba
                have G26 := G26.keep hba G26.lt
                have hne56 : g26 ≠ Z5.heap.size := Nat.ne_of_lt hlt26
                have G25 := Blk.new Z5 29 #[.int .i64 0, .int .i64 0, .slice none 0 0]
                have hg25 := BZ5.size
                refine hK.out _ _ ⟨keep_cell BZ6 y0, keep_cell BZ6 y1, keep_cell BZ6 y2⟩ (fun hHeld => ?_)
                clear hK K hba
                (try simp only [Act.put, List.setIfInBounds_toArray, List.set_cons_zero, List.set_cons_succ])
                generalize Z5.alloc (.cells #[.int .i64 0, .int .i64 0, .slice none 0 0] 29) = Z6 at *
                generalize Z5.heap.size = g25 at *
                have hlt25 := hltx
                clear hltx
                (try simp only [Act.put, List.setIfInBounds_toArray, List.set_cons_zero, List.set_cons_succ])
                refine wpAnyH_ready (rs := [4]) (by kernel_rfl) (by simp) ?_
                refine AllReadyH.cons rfl (fun K hK => ?_) AllReadyH.nil
                obtain ⟨t0, t1, t2, f0, f1, f2⟩ := G25.three
                go_simp
                have G25x := blk_three3 (a' := .int .i64 (v : Nat)) (b' := .int .i64 (d : Nat)) (c' := .slice L1 N cl1) G25
                have G26x := blk_three_far (a' := .int .i64 (v : Nat)) (b' := .int .i64 (d : Nat)) (c' := .slice L1 N cl1) G26 (show g26 ≠ g25 by omega)
                have BZ7 := below_far (below_far (below_far BZ6 hg25 0 (.int .i64 (v : Nat))) hg25 1 (.int .i64 (d : Nat))) hg25 2 (.slice L1 N cl1)
                clear G25 G26 t0 t1 t2 f0 f1 f2
                have G25 := G25x
                have G26 := G26x
                refine hK.out _ _ ⟨keep_cell BZ7 y0, keep_cell BZ7 y1, keep_cell BZ7 y2⟩ (fun hHeld => ?_)
                clear hK K G25x G26x
                (try simp only [Act.put, List.setIfInBounds_toArray, List.set_cons_zero, List.set_cons_succ])
                generalize (((Z6.setCell ⟨g25, 0, none⟩ (.int .i64 (v : Nat))).setCell ⟨g25, 1, none⟩ (.int .i64 (d : Nat))).setCell ⟨g25, 2, none⟩ (.slice L1 N cl1)) = Z7 at *
                (try simp only [Act.put, List.setIfInBounds_toArray, List.set_cons_zero, List.set_cons_succ])
                refine wpAnyH_ready (rs := [5]) (by kernel_rfl) (by simp) ?_
                refine AllReadyH.cons rfl (fun K hK => ?_) AllReadyH.nil
                obtain ⟨t0, t1, t2, f0, f1, f2⟩ := G26.three
                go_simp
                have G26x := blk_three3 (a' := .int .i64 (v : Nat)) (b' := .int .i64 (d : Nat)) (c' := .slice L1 N cl1) G26
                have G25x := blk_three_far (a' := .int .i64 (v : Nat)) (b' := .int .i64 (d : Nat)) (c' := .slice L1 N cl1) G25 (show g25 ≠ g26 by omega)
                have BZ8 := below_far (below_far (below_far BZ7 hg26 0 (.int .i64 (v : Nat))) hg26 1 (.int .i64 (d : Nat))) hg26 2 (.slice L1 N cl1)
                clear G26 G25 t0 t1 t2 f0 f1 f2
                have G26 := G26x
                have G25 := G25x
                refine hK.out _ _ ⟨keep_cell BZ8 y0, keep_cell BZ8 y1, keep_cell BZ8 y2⟩ (fun hHeld => ?_)
                clear hK K G26x G25x
                (try simp only [Act.put, List.setIfInBounds_toArray, List.set_cons_zero, List.set_cons_succ])
                generalize (((Z7.setCell ⟨g26, 0, none⟩ (.int .i64 (v : Nat))).setCell ⟨g26, 1, none⟩ (.int .i64 (d : Nat))).setCell ⟨g26, 2, none⟩ (.slice L1 N cl1)) = Z8 at *
                (try simp only [Act.put, List.setIfInBounds_toArray, List.set_cons_zero, List.set_cons_succ])
                refine wpAnyH_done (by kernel_rfl) ?_ _
                have HG25 := Lib.hid G25
                have HG26 := Lib.hid G26
                have HBx := Lib.hid BZ8
                go_wp2
                go_meet
                exact ⟨g25, g26, rfl, rfl, by omega, hg25, hg26, Lib.hid ⟨HG25.out, HG26.out, HBx.out⟩⟩
  
          obtain ⟨g25, g26, rfl, rfl, hne56, hi25, hi26, HC⟩ := hcut
          obtain ⟨wJ, rfl⟩ : ∃ x : World, x = wc := ⟨_, rfl⟩
          clear y0 y1 y2
          obtain ⟨t0, t1, t2, f0, f1, f2⟩ := HC.out.1.three
          obtain ⟨p0, p1, p2, r0, r1, r2⟩ := HC.out.2.1.three
          go_upto_region 26 with (fail)
          obtain ⟨bs, hbs⟩ : ∃ x, max g25 g26 + 1 = x := ⟨_, rfl⟩
          have hb25 : g25 < bs := by omega
          have hb26 : g26 < bs := by omega
          have hbs2 : bs ≤ g25 + 1 ∨ bs ≤ g26 + 1 := by omega
          have HLS0 : Hid (LS wI bs g25 g26 v d (List.zipWith (· + ·) qa qb) (qa.map (r.q * ·)) ((wJ.setCell ⟨g25, 2, none⟩ (.slice none 0 0)).setCell ⟨g26, 2, none⟩ (.slice none 0 0)) 0 0 none 0 [] none 0 []) := Lib.hid (by
            have h1 := (HC.out.1.set 2 (.slice none 0 0)).far (p := ⟨g26, 2, none⟩) (by simpa using hne56) (.slice none 0 0)
            have h2 := (HC.out.2.1.far (p := ⟨g25, 2, none⟩) (by simpa using hne56.symm) (.slice none 0 0)).set 2 (.slice none 0 0)
            exact ⟨⟨by simpa using h1, OwnQ.nil _ _, rfl, rfl⟩, ⟨by simpa using h2, OwnQ.nil _ _, rfl, rfl⟩, .inl rfl, below_far (below_far HC.out.2.2 hi25 _ _) hi26 _ _⟩)
          generalize (wJ.setCell ⟨g25, 2, none⟩ (.slice none 0 0)).setCell ⟨g26, 2, none⟩ (.slice none 0 0) = wK at *
          clear HC t0 t1 t2 f0 f1 f2 p0 p1 p2 r0 r1 r2 hbs
          have hy := (Hg23.out.keep HLS0.out.below).blk
          obtain ⟨y0, y1, y2, _, _, _⟩ := hy.three
          clear hy
          go_wp2

          go_loopw [149] (fun s149 wr => ∃ (k : Nat) (A1 : Option Addr) (c1 : Nat) (la : List RVal) (A2 : Option Addr) (c2 : Nat) (lb : List RVal), s149 = .int .i64 (k : Nat) ∧ k ≤ N ∧ Hid (LS wI bs g25 g26 v d (List.zipWith (· + ·) qa qb) (qa.map (r.q * ·)) wr k k A1 c1 la A2 c2 lb)) (fun s149 _ => N - (intOf s149).toNat)
          case atStart => exact ⟨0, none, 0, [], none, 0, [], rfl, Nat.zero_le _, HLS0⟩
          case round =>
            clear HLS0 y0 y1 y2
            obtain ⟨wo, rfl⟩ : ∃ wo : World, wo = wr := ⟨_, rfl⟩
            obtain ⟨k, A1, c1, la, A2, c2, lb, rfl, hk, HST⟩ := hrel
            have HRi := Lib.hid (HRz.out.keep HBwI.out)
            by_cases hkn : k = N
            · have e1 : decide ((k : Int) < (N : Int)) = false := decide_eq_false (by omega)
              have e1' : decide (k < N) = false := decide_eq_false (by omega)
              subst k
              have Hg19 := Lib.hid (Hg19.out.keep HST.out.below)
              have Hg21 := Lib.hid (Hg21.out.keep HST.out.below)
              obtain ⟨x0, x1, x2, _, _, _⟩ := Hg19.out.blk.three
              obtain ⟨y0, y1, y2, _, _, _⟩ := HST.out.h1.b.three
              obtain ⟨z0, z1, z2, _, _, _⟩ := Hg21.out.blk.three
              obtain ⟨u0, u1, u2, _, _, _⟩ := HST.out.h2.b.three
              have HKN : Hid (∀ V, Below wo.heap.size wo V → Calls Tryz.prog 9 #[] V fun e w' => e = .returned (.bool true) ∧ Below V.heap.size V w') := Lib.hid (fun V h => known_any V (HPTz.out.keep (below_all (below_all HBwI.out HST.out.below) h)))
              have hqs1 : la.map RVal.q = List.zipWith (· + ·) qa qb := by rw [HST.out.h1.q, List.take_of_length_le (by rw [List.length_zipWith, HLA.out, HLB.out, Nat.min_self]; exact Nat.le_refl _)]
              have hqs2 : lb.map RVal.q = qa.map (r.q * ·) := by rw [HST.out.h2.q, List.take_of_length_le (by rw [List.length_map, HLA.out]; exact Nat.le_refl _)]
              have HWR1 : Hid (∀ V, Below wo.heap.size wo V → Calls Tryz.prog 24 #[.agg #[.int .i64 (v : Nat), .int .i64 (d : Nat), .slice A1 N c1]] V fun e w' => ∃ B, e = .returned (.agg #[.int .i64 (v : Nat), .int .i64 (d : Nat), .slice B N N]) ∧ Txts w' B (List.zipWith (· + ·) qa qb) ∧ Below V.heap.size V w') := Lib.hid (fun V h => lo_write v d HST.out.h1.l hqs1 (bd_sums HBA.out HBB.out) (by omega) A1 c1 V ((Fi.OwnQ.qs HST.out.h1.o).keep h))
              have HWR2 : Hid (∀ V, Below wo.heap.size wo V → Calls Tryz.prog 24 #[.agg #[.int .i64 (v : Nat), .int .i64 (d : Nat), .slice A2 N c2]] V fun e w' => ∃ B, e = .returned (.agg #[.int .i64 (v : Nat), .int .i64 (d : Nat), .slice B N N]) ∧ Txts w' B (qa.map (r.q * ·)) ∧ Below V.heap.size V w') := Lib.hid (fun V h => lo_write v d HST.out.h2.l hqs2 (bd_mults HBA.out HRC.out) (by omega) A2 c2 V ((Fi.OwnQ.qs HST.out.h2.o).keep h))
              have HSM1 : Hid (∀ V A B, Txts V A (List.zipWith (· + ·) qa qb) → Txts V B (List.zipWith (· + ·) qa qb) → Calls Tryz.prog 14 #[.agg #[.int .i64 (v : Nat), .int .i64 (d : Nat), .slice A N N], .agg #[.int .i64 (v : Nat), .int .i64 (d : Nat), .slice B N N]] V fun e w' => e = .returned (.bool true) ∧ Below V.heap.size V w') := Lib.hid (fun V A B hA hB => lo_same v d (by rw [List.length_zipWith, HLA.out, HLB.out, Nat.min_self]) (by omega) A B N N V hA hB)
              have HSM2 : Hid (∀ V A B, Txts V A (qa.map (r.q * ·)) → Txts V B (qa.map (r.q * ·)) → Calls Tryz.prog 14 #[.agg #[.int .i64 (v : Nat), .int .i64 (d : Nat), .slice A N N], .agg #[.int .i64 (v : Nat), .int .i64 (d : Nat), .slice B N N]] V fun e w' => e = .returned (.bool true) ∧ Below V.heap.size V w') := Lib.hid (fun V A B hA hB => lo_same v d (by rw [List.length_map, HLA.out]) (by omega) A B N N V hA hB)
              have HBX := Lib.hid (below_all HBwI.out HST.out.below)
              clear hqs1 hqs2
              go_upto_region 32 with (fail)
              have BZ : Below wo.heap.size wo wo.drew := (Below.refl _ _).drew
              refine wp_region_held_drew (S := (fun w' => w'.cell? ⟨g19, 0, none⟩ = some (.int .i64 (v : Nat)) ∧ w'.cell? ⟨g19, 1, none⟩ = some (.int .i64 (d : Nat)) ∧ w'.cell? ⟨g19, 2, none⟩ = some (.slice F3 N N) ∧ w'.cell? ⟨g25, 0, none⟩ = some (.int .i64 (v : Nat)) ∧ w'.cell? ⟨g25, 1, none⟩ = some (.int .i64 (d : Nat)) ∧ w'.cell? ⟨g25, 2, none⟩ = some (.slice A1 N c1) ∧ w'.cell? ⟨g21, 0, none⟩ = some (.int .i64 (v : Nat)) ∧ w'.cell? ⟨g21, 1, none⟩ = some (.int .i64 (d : Nat)) ∧ w'.cell? ⟨g21, 2, none⟩ = some (.slice F4 N N) ∧ w'.cell? ⟨g26, 0, none⟩ = some (.int .i64 (v : Nat)) ∧ w'.cell? ⟨g26, 1, none⟩ = some (.int .i64 (d : Nat)) ∧ w'.cell? ⟨g26, 2, none⟩ = some (.slice A2 N c2))) (by kernel_rfl) ⟨keep_cell BZ x0, keep_cell BZ x1, keep_cell BZ x2, keep_cell BZ y0, keep_cell BZ y1, keep_cell BZ y2, keep_cell BZ z0, keep_cell BZ z1, keep_cell BZ z2, keep_cell BZ u0, keep_cell BZ u1, keep_cell BZ u2⟩ (fun hHeld => ?_)
              generalize wo.drew = Z at *
              refine wpAnyH_ready (rs := [0]) (by kernel_rfl) (by simp) ?_
              refine AllReadyH.cons rfl (fun K hK => ?_) AllReadyH.nil
              go_simp
              refine (HKN.out _ BZ).mono ?_
              rintro e w24 ⟨rfl, hb⟩
              (try go_simp)
              have BZ := below_all BZ hb
              refine hK.out _ _ ⟨keep_cell BZ x0, keep_cell BZ x1, keep_cell BZ x2, keep_cell BZ y0, keep_cell BZ y1, keep_cell BZ y2, keep_cell BZ z0, keep_cell BZ z1, keep_cell BZ z2, keep_cell BZ u0, keep_cell BZ u1, keep_cell BZ u2⟩ (fun hHeld => ?_)
              clear hK K hb
              (try simp only [Act.put, List.setIfInBounds_toArray, List.set_cons_zero, List.set_cons_succ])
              refine wpAnyH_get 1 (some 182) (.bool true) rfl rfl (by kernel_rfl) (by kernel_rfl) (by kernel_rfl) (fun _ _ _ h => h) (by rfl) hHeld ?_ ?_
              · (intro w hSw; (try dsimp only at hSw); go_simp; all_goals (try with_reducible rfl))
              (try simp only [Act.put, List.setIfInBounds_toArray, List.set_cons_zero, List.set_cons_succ])
              refine wpAnyH_get 2 (some 183) (.agg #[.int .i64 (v : Nat), .int .i64 (d : Nat), .slice F3 N N]) rfl rfl (by kernel_rfl) (by kernel_rfl) (by kernel_rfl) (fun _ _ _ h => h) (by rfl) hHeld ?_ ?_
              · (intro w hSw; (try dsimp only at hSw); go_simp; all_goals (try with_reducible rfl))
              (try simp only [Act.put, List.setIfInBounds_toArray, List.set_cons_zero, List.set_cons_succ])
              refine wpAnyH_get 3 (some 184) (.agg #[.int .i64 (v : Nat), .int .i64 (d : Nat), .slice A1 N c1]) rfl rfl (by kernel_rfl) (by kernel_rfl) (by kernel_rfl) (fun _ _ _ h => h) (by rfl) hHeld ?_ ?_
              · (intro w hSw; (try dsimp only at hSw); go_simp; all_goals (try with_reducible rfl))
              (try simp only [Act.put, List.setIfInBounds_toArray, List.set_cons_zero, List.set_cons_succ])
              refine wpAnyH_ready (rs := [4]) (by kernel_rfl) (by simp) ?_
              refine AllReadyH.cons rfl (fun K hK => ?_) AllReadyH.nil
              go_simp
              refine (HWR1.out _ BZ).mono ?_
              rintro e w25 ⟨T1, rfl, hTT1, hb⟩
              (try go_simp)
              have HTT1 := Lib.hid hTT1
              have BZ := below_all BZ hb
              refine hK.out _ _ ⟨keep_cell BZ x0, keep_cell BZ x1, keep_cell BZ x2, keep_cell BZ y0, keep_cell BZ y1, keep_cell BZ y2, keep_cell BZ z0, keep_cell BZ z1, keep_cell BZ z2, keep_cell BZ u0, keep_cell BZ u1, keep_cell BZ u2⟩ (fun hHeld => ?_)
              clear hK K hb hTT1
              (try simp only [Act.put, List.setIfInBounds_toArray, List.set_cons_zero, List.set_cons_succ])
              refine wpAnyH_ready (rs := [5]) (by kernel_rfl) (by simp) ?_
              refine AllReadyH.cons rfl (fun K hK => ?_) AllReadyH.nil
              go_simp
              refine (HSM1.out _ F3 T1 (Hg19.out.txt.keep BZ) HTT1.out).mono ?_
              rintro e w26 ⟨rfl, hb⟩
              (try go_simp)
              have BZ := below_all BZ hb
              refine hK.out _ _ ⟨keep_cell BZ x0, keep_cell BZ x1, keep_cell BZ x2, keep_cell BZ y0, keep_cell BZ y1, keep_cell BZ y2, keep_cell BZ z0, keep_cell BZ z1, keep_cell BZ z2, keep_cell BZ u0, keep_cell BZ u1, keep_cell BZ u2⟩ (fun hHeld => ?_)
              clear hK K hb HTT1
              (try simp only [Act.put, List.setIfInBounds_toArray, List.set_cons_zero, List.set_cons_succ])
              refine wpAnyH_get 6 (some 187) (.bool true) rfl rfl (by kernel_rfl) (by kernel_rfl) (by kernel_rfl) (fun _ _ _ h => h) (by rfl) hHeld ?_ ?_
              · (intro w hSw; (try dsimp only at hSw); go_simp; all_goals (try with_reducible rfl))
              (try simp only [Act.put, List.setIfInBounds_toArray, List.set_cons_zero, List.set_cons_succ])
              refine wpAnyH_get 7 (some 188) (.bool true) rfl rfl (by kernel_rfl) (by kernel_rfl) (by kernel_rfl) (fun _ _ _ h => h) (by rfl) hHeld ?_ ?_
              · (intro w hSw; (try dsimp only at hSw); go_simp; all_goals (try with_reducible rfl))
              (try simp only [Act.put, List.setIfInBounds_toArray, List.set_cons_zero, List.set_cons_succ])
              refine wpAnyH_get 8 (some 189) (.agg #[.int .i64 (v : Nat), .int .i64 (d : Nat), .slice F4 N N]) rfl rfl (by kernel_rfl) (by kernel_rfl) (by kernel_rfl) (fun _ _ _ h => h) (by rfl) hHeld ?_ ?_
              · (intro w hSw; (try dsimp only at hSw); go_simp; all_goals (try with_reducible rfl))
              (try simp only [Act.put, List.setIfInBounds_toArray, List.set_cons_zero, List.set_cons_succ])
              refine wpAnyH_get 9 (some 190) (.agg #[.int .i64 (v : Nat), .int .i64 (d : Nat), .slice A2 N c2]) rfl rfl (by kernel_rfl) (by kernel_rfl) (by kernel_rfl) (fun _ _ _ h => h) (by rfl) hHeld ?_ ?_
              · (intro w hSw; (try dsimp only at hSw); go_simp; all_goals (try with_reducible rfl))
              (try simp only [Act.put, List.setIfInBounds_toArray, List.set_cons_zero, List.set_cons_succ])
              refine wpAnyH_ready (rs := [10]) (by kernel_rfl) (by simp) ?_
              refine AllReadyH.cons rfl (fun K hK => ?_) AllReadyH.nil
              go_simp
              refine (HWR2.out _ BZ).mono ?_
              rintro e w27 ⟨T2, rfl, hTT2, hb⟩
              (try go_simp)
              have HTT2 := Lib.hid hTT2
              have BZ := below_all BZ hb
              refine hK.out _ _ ⟨keep_cell BZ x0, keep_cell BZ x1, keep_cell BZ x2, keep_cell BZ y0, keep_cell BZ y1, keep_cell BZ y2, keep_cell BZ z0, keep_cell BZ z1, keep_cell BZ z2, keep_cell BZ u0, keep_cell BZ u1, keep_cell BZ u2⟩ (fun hHeld => ?_)
              clear hK K hb hTT2
              (try simp only [Act.put, List.setIfInBounds_toArray, List.set_cons_zero, List.set_cons_succ])
              refine wpAnyH_ready (rs := [11]) (by kernel_rfl) (by simp) ?_
              refine AllReadyH.cons rfl (fun K hK => ?_) AllReadyH.nil
              go_simp
              refine (HSM2.out _ F4 T2 (Hg21.out.txt.keep BZ) HTT2.out).mono ?_
              rintro e w28 ⟨rfl, hb⟩
              (try go_simp)
              have BZ := below_all BZ hb
              refine hK.out _ _ ⟨keep_cell BZ x0, keep_cell BZ x1, keep_cell BZ x2, keep_cell BZ y0, keep_cell BZ y1, keep_cell BZ y2, keep_cell BZ z0, keep_cell BZ z1, keep_cell BZ z2, keep_cell BZ u0, keep_cell BZ u1, keep_cell BZ u2⟩ (fun hHeld => ?_)
              clear hK K hb HTT2
              (try simp only [Act.put, List.setIfInBounds_toArray, List.set_cons_zero, List.set_cons_succ])
              refine wpAnyH_get 12 (some 193) (.bool true) rfl rfl (by kernel_rfl) (by kernel_rfl) (by kernel_rfl) (fun _ _ _ h => h) (by rfl) hHeld ?_ ?_
              · (intro w hSw; (try dsimp only at hSw); go_simp; all_goals (try with_reducible rfl))
              (try simp only [Act.put, List.setIfInBounds_toArray, List.set_cons_zero, List.set_cons_succ])
              refine wpAnyH_get 13 (some 2) (.bool true) rfl rfl (by kernel_rfl) (by kernel_rfl) (by kernel_rfl) (fun _ _ _ h => h) (by rfl) hHeld ?_ ?_
              · (intro w hSw; (try dsimp only at hSw); go_simp; all_goals (try with_reducible rfl))
              (try simp only [Act.put, List.setIfInBounds_toArray, List.set_cons_zero, List.set_cons_succ])
              refine wpAnyH_done (by kernel_rfl) ?_ _

              have HEND := Lib.hid (below_all HBWz.out (below_all HBX.out BZ))
              clear BZ x0 x1 x2 y0 y1 y2 z0 z1 z2 u0 u1 u2
              go_wp2
              go_ret
              exact ⟨rfl, HEND.out⟩

            · as_aux_lemma =>
                have hkl : k < N := by omega
                have e1 : decide ((k : Int) < (N : Int)) = true := decide_eq_true (by omega)
                have e1' : decide (k < N) = true := decide_eq_true hkl
                have q1 : (0 : Int) ≤ (k : Int) := by omega
                have q2 : (k : Int) < (N : Int) := by omega
                have HBO := Lib.hid HST.out.below
                have hkr1 : k < rs1.length := by rw [Hg23.out.len]; exact hkl
                have hkr2 : k < rs2.length := by rw [Hg24.out.len]; exact hkl
                have hB23 := Hg23.out.blk
                have hB24 := Hg24.out.blk
                have hBr := HRi.out.b
                obtain ⟨aa, hAA, a0, a1, a2, a3⟩ := Hg23.out.qsat.at hkr1
                obtain ⟨ab, hAB, b0, b1, b2, b3⟩ := Hg24.out.qsat.at hkr2
                obtain ⟨p, hp⟩ : ∃ p, rs1[k] = p := ⟨_, rfl⟩
                obtain ⟨q, hq⟩ : ∃ q, rs2[k] = q := ⟨_, rfl⟩
                rw [hp] at a0 a1 a3
                rw [hq] at b0 b1 b3
                rw [hAA] at hB23
                rw [hAB] at hB24
                obtain ⟨_, _, h0, _, _, _⟩ := hB23.three
                obtain ⟨_, _, h1, _, _, _⟩ := hB24.three
                obtain ⟨r0, r1, r2, r3c, _, _, _, _⟩ := hBr.four
                have hpo : p.Ok wI := by rw [← hp]; exact Hg23.out.qsat.ok _ (List.getElem_mem _)
                have hqo : q.Ok wI := by rw [← hq]; exact Hg24.out.qsat.ok _ (List.getElem_mem _)
                have hpq : qa[k]? = some p.q := by rw [← Hg23.out.q, ← hp]; simp [hkr1]
                have hqq : qb[k]? = some q.q := by rw [← Hg24.out.q, ← hq]; simp [hkr2]
                have hps : QS p.q := (HBA.out p.q (List.mem_of_getElem? hpq)).qs' (by decide) (by decide) (by decide)
                have hqs : QS q.q := (HBB.out q.q (List.mem_of_getElem? hqq)).qs' (by decide) (by decide) (by decide)
                have hrs : QS r.q := HRC.out.qs' (by decide) (by decide) (by decide)
                have HSAk : Hid ((List.zipWith (· + ·) qa qb)[k]? = some (p.q + q.q)) := Lib.hid (by simp [List.getElem?_zipWith, hpq, hqq])
                have HSBk : Hid ((qa.map (r.q * ·))[k]? = some (r.q * p.q)) := Lib.hid (by simp [hpq])
                have HADD : Hid (∀ V, Below wI.heap.size wI V → Calls Tryz.prog 25 #[p.val, q.val] V fun e w' => ∃ r3 : RVal, r3.q = p.q + q.q ∧ e = .returned r3.val ∧ r3.Ok w' ∧ Below V.heap.size V w') := Lib.hid (fun V h => (radd_q p.q q.q p.val q.val V (hpo.keep h).at (hqo.keep h).at hps hqs).mono fun _ _ h => h.rval)
                have HMUL : Hid (∀ V, Below wI.heap.size wI V → Calls Tryz.prog 26 #[r.val, p.val] V fun e w' => ∃ r3 : RVal, r3.q = r.q * p.q ∧ e = .returned r3.val ∧ r3.Ok w' ∧ Below V.heap.size V w') := Lib.hid (fun V h => (rmul_q r.q p.q r.val p.val V (HRi.out.ok.keep h).at (hpo.keep h).at hrs hps).mono fun _ _ h => h.rval)
                obtain ⟨i0, hi0, hz0, hz1, hz2⟩ := info_parts rat_info
                unfold RVal.val at HADD HMUL
                clear hAA hAB hB23 hB24 hBr hpo hqo hpq hqq hps hqs hrs hp hq hkr1 hkr2 hkn
                generalize decide (p.q.num < 0) = sa at *
                generalize (dg p.q.num.natAbs).length = ma at *
                generalize (dg (dnz p.q.den)).length = oa at *
                generalize decide (q.q.num < 0) = sb at *
                generalize (dg q.q.num.natAbs).length = mb at *
                generalize (dg (dnz q.q.den)).length = ob at *
                generalize p.N = Na at *
                generalize p.D = Da at *
                generalize p.cn = ea at *
                generalize p.cd = fa at *
                generalize q.N = Nb at *
                generalize q.D = Db at *
                generalize q.cn = eb at *
                generalize q.cd = fb at *
  
                have HFAR := Lib.hid HST.out.far
                have HFAS := Lib.hid (far_symm HST.out.far)
                have HCA := HADD
                have HVAL := HSAk
                go_upto_region 29 with (fail)
                go_cut [27] (fun s27 wx => s27 = .int .i64 (k : Nat) ∧ ∃ (A1 : Option Addr) (c1 : Nat) (la : List RVal), Hid (LS wI bs g25 g26 v d (List.zipWith (· + ·) qa qb) (qa.map (r.q * ·)) wx (k + 1) k A1 c1 la A2 c2 lb))
                case first =>
                  as_aux_lemma =>
                    have BZ : Below wo.heap.size wo wo.drew := (Below.refl _ _).drew
                    refine wp_region_held_drew (S := (fun w' => w'.cell? ⟨g23, 2, none⟩ = some (.slice (some aa) N cl1) ∧ w'.cell? ⟨g24, 2, none⟩ = some (.slice (some ab) N cl2) ∧ w'.cell? (aa.add (k * 4)) = some (.bool sa) ∧ w'.cell? ⟨(aa.add (k * 4)).block, (aa.add (k * 4)).off + 1, none⟩ = some (.slice Na ma ea) ∧ w'.cell? ⟨(aa.add (k * 4)).block, (aa.add (k * 4)).off + 2, none⟩ = some (.bool false) ∧ w'.cell? ⟨(aa.add (k * 4)).block, (aa.add (k * 4)).off + 3, none⟩ = some (.slice Da oa fa) ∧ w'.cell? (ab.add (k * 4)) = some (.bool sb) ∧ w'.cell? ⟨(ab.add (k * 4)).block, (ab.add (k * 4)).off + 1, none⟩ = some (.slice Nb mb eb) ∧ w'.cell? ⟨(ab.add (k * 4)).block, (ab.add (k * 4)).off + 2, none⟩ = some (.bool false) ∧ w'.cell? ⟨(ab.add (k * 4)).block, (ab.add (k * 4)).off + 3, none⟩ = some (.slice Db ob fb))) (by kernel_rfl) ⟨keep_cell (below_all HBO.out BZ) h0, keep_cell (below_all HBO.out BZ) h1, keep_cell (below_all HBO.out BZ) a0, keep_cell (below_all HBO.out BZ) a1, keep_cell (below_all HBO.out BZ) a2, keep_cell (below_all HBO.out BZ) a3, keep_cell (below_all HBO.out BZ) b0, keep_cell (below_all HBO.out BZ) b1, keep_cell (below_all HBO.out BZ) b2, keep_cell (below_all HBO.out BZ) b3⟩ (fun hHeld => ?_)
                    generalize wo.drew = Z at *
                    refine wpAnyH_get 0 (some 152) (.pointer (some ⟨g25, 2, none⟩)) rfl rfl (by kernel_rfl) (by kernel_rfl) (by kernel_rfl) (fun _ _ _ h => h) (by rfl) hHeld ?_ ?_
                    · (intro w hSw; (try dsimp only at hSw); go_simp; all_goals (try with_reducible rfl))
                    (try simp only [Act.put, List.setIfInBounds_toArray, List.set_cons_zero, List.set_cons_succ])
                    refine wpAnyH_get 2 (some 154) (.pointer (some ⟨g23, 2, none⟩)) rfl rfl (by kernel_rfl) (by kernel_rfl) (by kernel_rfl) (fun _ _ _ h => h) (by rfl) hHeld ?_ ?_
                    · (intro w hSw; (try dsimp only at hSw); go_simp; all_goals (try with_reducible rfl))
                    (try simp only [Act.put, List.setIfInBounds_toArray, List.set_cons_zero, List.set_cons_succ])
                    refine wpAnyH_get 3 (some 155) (.slice (some aa) N cl1) rfl rfl (by kernel_rfl) (by kernel_rfl) (by kernel_rfl) (fun _ _ _ h => h) (by rfl) hHeld ?_ ?_
                    · (intro w hSw; (try dsimp only at hSw); go_simp; all_goals (try with_reducible rfl))
                    (try simp only [Act.put, List.setIfInBounds_toArray, List.set_cons_zero, List.set_cons_succ])
                    refine wpAnyH_get 4 (some 156) (.int .i64 (k : Nat)) rfl rfl (by kernel_rfl) (by kernel_rfl) (by kernel_rfl) (fun _ _ _ h => h) (by rfl) hHeld ?_ ?_
                    · (intro w hSw; (try dsimp only at hSw); go_simp; all_goals (try with_reducible rfl))
                    (try simp only [Act.put, List.setIfInBounds_toArray, List.set_cons_zero, List.set_cons_succ])
                    refine wpAnyH_get 5 (some 157) (.pointer (some (aa.add (k * 4)))) rfl rfl (by kernel_rfl) (by kernel_rfl) (by kernel_rfl) (fun _ _ _ h => h) (by rfl) hHeld ?_ ?_
                    · (intro w hSw; (try dsimp only at hSw); go_simp; all_goals (try with_reducible rfl))
                    (try simp only [Act.put, List.setIfInBounds_toArray, List.set_cons_zero, List.set_cons_succ])
                    refine wpAnyH_get 6 (some 158) (.agg #[.bool sa, .slice Na ma ea, .bool false, .slice Da oa fa]) rfl rfl (by kernel_rfl) (by kernel_rfl) (by kernel_rfl) (fun _ _ _ h => h) (by rfl) hHeld ?_ ?_
                    · (intro w hSw; (try dsimp only at hSw); go_simp; all_goals (try with_reducible rfl))
                    (try simp only [Act.put, List.setIfInBounds_toArray, List.set_cons_zero, List.set_cons_succ])
                    refine wpAnyH_get 7 (some 159) (.pointer (some ⟨g24, 2, none⟩)) rfl rfl (by kernel_rfl) (by kernel_rfl) (by kernel_rfl) (fun _ _ _ h => h) (by rfl) hHeld ?_ ?_
                    · (intro w hSw; (try dsimp only at hSw); go_simp; all_goals (try with_reducible rfl))
                    (try simp only [Act.put, List.setIfInBounds_toArray, List.set_cons_zero, List.set_cons_succ])
                    refine wpAnyH_get 8 (some 160) (.slice (some ab) N cl2) rfl rfl (by kernel_rfl) (by kernel_rfl) (by kernel_rfl) (fun _ _ _ h => h) (by rfl) hHeld ?_ ?_
                    · (intro w hSw; (try dsimp only at hSw); go_simp; all_goals (try with_reducible rfl))
                    (try simp only [Act.put, List.setIfInBounds_toArray, List.set_cons_zero, List.set_cons_succ])
                    refine wpAnyH_get 9 (some 161) (.int .i64 (k : Nat)) rfl rfl (by kernel_rfl) (by kernel_rfl) (by kernel_rfl) (fun _ _ _ h => h) (by rfl) hHeld ?_ ?_
                    · (intro w hSw; (try dsimp only at hSw); go_simp; all_goals (try with_reducible rfl))
                    (try simp only [Act.put, List.setIfInBounds_toArray, List.set_cons_zero, List.set_cons_succ])
                    refine wpAnyH_get 10 (some 162) (.pointer (some (ab.add (k * 4)))) rfl rfl (by kernel_rfl) (by kernel_rfl) (by kernel_rfl) (fun _ _ _ h => h) (by rfl) hHeld ?_ ?_
                    · (intro w hSw; (try dsimp only at hSw); go_simp; all_goals (try with_reducible rfl))
                    (try simp only [Act.put, List.setIfInBounds_toArray, List.set_cons_zero, List.set_cons_succ])
                    refine wpAnyH_get 11 (some 163) (.agg #[.bool sb, .slice Nb mb eb, .bool false, .slice Db ob fb]) rfl rfl (by kernel_rfl) (by kernel_rfl) (by kernel_rfl) (fun _ _ _ h => h) (by rfl) hHeld ?_ ?_
                    · (intro w hSw; (try dsimp only at hSw); go_simp; all_goals (try with_reducible rfl))
                    (try simp only [Act.put, List.setIfInBounds_toArray, List.set_cons_zero, List.set_cons_succ])
                    refine wpAnyH_ready (rs := [1, 12]) (by kernel_rfl) (by simp) ?_
                    refine AllReadyH.cons rfl (fun K hK => ?_) (AllReadyH.cons rfl (fun K hK => ?_) AllReadyH.nil)
                    · obtain ⟨t0, t1, t2, f0, f1, f2⟩ := (HST.out.h1.b.keep BZ HST.out.h1.b.lt).three
                      go_simp
                      obtain ⟨Z1, rfl⟩ : ∃ x : World, x = Z := ⟨_, rfl⟩
                      have BZ1 := BZ
                      refine hK.out _ _ ⟨keep_cell (below_all HBO.out BZ1) h0, keep_cell (below_all HBO.out BZ1) h1, keep_cell (below_all HBO.out BZ1) a0, keep_cell (below_all HBO.out BZ1) a1, keep_cell (below_all HBO.out BZ1) a2, keep_cell (below_all HBO.out BZ1) a3, keep_cell (below_all HBO.out BZ1) b0, keep_cell (below_all HBO.out BZ1) b1, keep_cell (below_all HBO.out BZ1) b2, keep_cell (below_all HBO.out BZ1) b3⟩ (fun hHeld => ?_)
                      clear hK K t0 t1 t2 f0 f1 f2
                      (try simp only [Act.put, List.setIfInBounds_toArray, List.set_cons_zero, List.set_cons_succ])
                      refine wpAnyH_ready (rs := [12]) (by kernel_rfl) (by simp) ?_
                      refine AllReadyH.cons rfl (fun K hK => ?_) AllReadyH.nil
                      go_simp
                      refine (HCA.out _ (below_all HBO.out BZ1)).mono ?_
                      rintro e Z2 ⟨r3, hq3, rfl, hok3, hb⟩
                      have HQ3 := Lib.hid hq3
                      have HOK3 := Lib.hid hok3
                      clear hq3 hok3
                      have BZ2 := below_all BZ1 hb
                      (try unfold RVal.val)
                      (try go_simp)
                      refine hK.out _ _ ⟨keep_cell (below_all HBO.out BZ2) h0, keep_cell (below_all HBO.out BZ2) h1, keep_cell (below_all HBO.out BZ2) a0, keep_cell (below_all HBO.out BZ2) a1, keep_cell (below_all HBO.out BZ2) a2, keep_cell (below_all HBO.out BZ2) a3, keep_cell (below_all HBO.out BZ2) b0, keep_cell (below_all HBO.out BZ2) b1, keep_cell (below_all HBO.out BZ2) b2, keep_cell (below_all HBO.out BZ2) b3⟩ (fun hHeld => ?_)
                      clear hK K hb
                      (try simp only [Act.put, List.setIfInBounds_toArray, List.set_cons_zero, List.set_cons_succ])
                      refine wpAnyH_ready (rs := [13]) (by kernel_rfl) (by simp) ?_
                      refine AllReadyH.cons rfl (fun K hK => ?_) AllReadyH.nil
                      go_simp
                      have hba : Below Z2.heap.size Z2 (Z2.alloc (.cells #[.bool (decide (r3.q.num < 0)), .slice r3.N (dg r3.q.num.natAbs).length r3.cn, .bool false, .slice r3.D (dg (dnz r3.q.den)).length r3.cd] 52)) := (Below.refl _ _).alloc (Nat.le_refl _) _
                      have BZ3 := below_all BZ2 hba
                      have HOK3 := Lib.hid (HOK3.out.keep hba)
                      have HNC := Lib.hid (cells_new Z2 52 [.bool (decide (r3.q.num < 0)), .slice r3.N (dg r3.q.num.natAbs).length r3.cn, .bool false, .slice r3.D (dg (dnz r3.q.den)).length r3.cd])
                      have hsz : (Z2.alloc (.cells #[.bool (decide (r3.q.num < 0)), .slice r3.N (dg r3.q.num.natAbs).length r3.cn, .bool false, .slice r3.D (dg (dnz r3.q.den)).length r3.cd] 52)).heap.size = Z2.heap.size + 1 := by simp
                      refine hK.out _ _ ⟨keep_cell (below_all HBO.out BZ3) h0, keep_cell (below_all HBO.out BZ3) h1, keep_cell (below_all HBO.out BZ3) a0, keep_cell (below_all HBO.out BZ3) a1, keep_cell (below_all HBO.out BZ3) a2, keep_cell (below_all HBO.out BZ3) a3, keep_cell (below_all HBO.out BZ3) b0, keep_cell (below_all HBO.out BZ3) b1, keep_cell (below_all HBO.out BZ3) b2, keep_cell (below_all HBO.out BZ3) b3⟩ (fun hHeld => ?_)
                      clear hK K hba
                      (try simp only [Act.put, List.setIfInBounds_toArray, List.set_cons_zero, List.set_cons_succ])
                      generalize Z2.alloc (.cells #[.bool (decide (r3.q.num < 0)), .slice r3.N (dg r3.q.num.natAbs).length r3.cn, .bool false, .slice r3.D (dg (dnz r3.q.den)).length r3.cd] 52) = Z3 at *
                      generalize Z2.heap.size = g13 at *
                      (try simp only [Act.put, List.setIfInBounds_toArray, List.set_cons_zero, List.set_cons_succ])
                      refine wpAnyH_ready (rs := [14]) (by kernel_rfl) (by simp) ?_
                      refine AllReadyH.cons rfl (fun K hK => ?_) AllReadyH.nil
                      have HLK := Lib.hid (HST.out.h1.keep BZ3)
                      have HLO := Lib.hid (HST.out.h2.keep BZ3)
                      have hown := HLK.out.own
                      have hbsz : bs ≤ Z3.heap.size := by have h1 := HLK.out.b.lt; have h2 := HLO.out.b.lt; rcases hbs2 with h3 | h3 <;> omega
                      have BI := below_all HBO.out BZ3
                      refine step_append_lies _ (by rfl) _ _ 27 (by rfl) bs 52 i0 _ 4 64 Tryz.underlying27 hi0 hz0 hz1 hz2 rfl (by decide) (.slice A1 k c1) k (la.flatMap RVal.cells) (by simp [Act.eval]) hown ⟨g13, 0, none⟩ 1 1 [.bool (decide (r3.q.num < 0)), .slice r3.N (dg r3.q.num.natAbs).length r3.cn, .bool false, .slice r3.D (dg (dnz r3.q.den)).length r3.cd] (by simp [Act.eval]) rfl HNC.out (by simp [Value.oneCell']) (by omega) (by simp only [maxLen]; omega) (by omega) hbsz (g13 + 1) hsz ?_
                      intro gn cap Z4 hown' hgrow hg2 _
                      have HGR := Lib.hid (HLK.out.grown (r := r3) HOK3.out hb25 hgrow hown')
                      have hoo := HLO.out.own
                      have HFR : Hid (some gn ≠ (Value.slice A2 k c2).ownBlock) := Lib.hid (far_step (w := Z3) (x := .slice A1 k c1) (y := .slice A2 k c2) (g := gn) (H := g13 + 1) HFAR.out hoo hsz hg2)
                      clear hoo
                      have BZ4 : Below wI.heap.size wI Z4 := BI.grown hgrow BI.size (fun j hj => by have := (hown.lt j hj).1; omega)
                      have HOA := Lib.hid (fun (x : Value) => LH.apart (x := x) HLO.out hown hgrow HFAS.out hb25 hne56.symm HGR.out.1)
                      refine hK.out _ _ ⟨keep_cell BZ4 h0, keep_cell BZ4 h1, keep_cell BZ4 a0, keep_cell BZ4 a1, keep_cell BZ4 a2, keep_cell BZ4 a3, keep_cell BZ4 b0, keep_cell BZ4 b1, keep_cell BZ4 b2, keep_cell BZ4 b3⟩ (fun hHeld => ?_)
                      clear hK K hown hown' hgrow hg2 hbsz hsz BI HLK HLO
                      (try simp only [Act.put, List.setIfInBounds_toArray])
                      refine wpAnyH_get 15 (some 167) (.pointer (some ⟨g25, 2, none⟩)) rfl rfl (by kernel_rfl) (by kernel_rfl) (by kernel_rfl) (fun _ _ _ h => h) (by rfl) hHeld ?_ ?_
                      · (intro w hSw; (try dsimp only at hSw); go_simp; all_goals (try with_reducible rfl))
                      (try simp only [Act.put])
                      refine wpAnyH_ready (rs := [16]) (by kernel_rfl) (by simp) ?_
                      refine AllReadyH.cons rfl (fun K hK => ?_) AllReadyH.nil
                      obtain ⟨t0, t1, t2, f0, f1, f2⟩ := HGR.out.1.three
                      go_simp
                      have HN1 := Lib.hid (LH.next HGR.out.1 HGR.out.2 hb25 HST.out.h1.l HST.out.h1.q (by rw [HVAL.out, HQ3.out]))
                      have HN2 := Lib.hid (HOA.out (.slice (some ⟨gn, 0, none⟩) (k + 1) cap))
                      have hBx := below_far BZ4 hi25 2 (.slice (some ⟨gn, 0, none⟩) (k + 1) cap)
                      have HLS : Hid (LS wI bs g25 g26 v d (List.zipWith (· + ·) qa qb) (qa.map (r.q * ·)) (Z4.setCell ⟨g25, 2, none⟩ (.slice (some ⟨gn, 0, none⟩) (k + 1) cap)) (k + 1) k (some ⟨gn, 0, none⟩) cap (la ++ [r3]) A2 c2 lb) := Lib.hid ⟨HN1.out, HN2.out, .inr (by simpa [Value.ownBlock] using HFR.out), hBx⟩
                      refine hK.out _ _ ⟨keep_cell hBx h0, keep_cell hBx h1, keep_cell hBx a0, keep_cell hBx a1, keep_cell hBx a2, keep_cell hBx a3, keep_cell hBx b0, keep_cell hBx b1, keep_cell hBx b2, keep_cell hBx b3⟩ (fun hHeld => ?_)
                      clear hK K t0 t1 t2 f0 f1 f2 HN1 HN2
                      (try simp only [Act.put, List.setIfInBounds_toArray, List.set_cons_zero, List.set_cons_succ])
                      refine wpAnyH_done (by kernel_rfl) ?_ _
                      have HXX := HLS
                      go_wp2
                      go_meet
                      exact ⟨rfl, _, _, _, HXX⟩
                    · go_simp
                      refine (HCA.out _ (below_all HBO.out BZ)).mono ?_
                      rintro e Z6 ⟨r3, hq3, rfl, hok3, hb⟩
                      have HQ3 := Lib.hid hq3
                      have HOK3 := Lib.hid hok3
                      clear hq3 hok3
                      have BZ6 := below_all BZ hb
                      (try unfold RVal.val)
                      (try go_simp)
                      refine hK.out _ _ ⟨keep_cell (below_all HBO.out BZ6) h0, keep_cell (below_all HBO.out BZ6) h1, keep_cell (below_all HBO.out BZ6) a0, keep_cell (below_all HBO.out BZ6) a1, keep_cell (below_all HBO.out BZ6) a2, keep_cell (below_all HBO.out BZ6) a3, keep_cell (below_all HBO.out BZ6) b0, keep_cell (below_all HBO.out BZ6) b1, keep_cell (below_all HBO.out BZ6) b2, keep_cell (below_all HBO.out BZ6) b3⟩ (fun hHeld => ?_)
                      clear hK K hb
                      (try simp only [Act.put, List.setIfInBounds_toArray, List.set_cons_zero, List.set_cons_succ])
                      refine wpAnyH_ready (rs := [1, 13]) (by kernel_rfl) (by simp) ?_
                      refine AllReadyH.cons rfl (fun K hK => ?_) (AllReadyH.cons rfl (fun K hK => ?_) AllReadyH.nil)
                      · obtain ⟨t0, t1, t2, f0, f1, f2⟩ := (HST.out.h1.b.keep BZ6 HST.out.h1.b.lt).three
                        go_simp
                        obtain ⟨Z7, rfl⟩ : ∃ x : World, x = Z6 := ⟨_, rfl⟩
                        have BZ7 := BZ6
                        refine hK.out _ _ ⟨keep_cell (below_all HBO.out BZ7) h0, keep_cell (below_all HBO.out BZ7) h1, keep_cell (below_all HBO.out BZ7) a0, keep_cell (below_all HBO.out BZ7) a1, keep_cell (below_all HBO.out BZ7) a2, keep_cell (below_all HBO.out BZ7) a3, keep_cell (below_all HBO.out BZ7) b0, keep_cell (below_all HBO.out BZ7) b1, keep_cell (below_all HBO.out BZ7) b2, keep_cell (below_all HBO.out BZ7) b3⟩ (fun hHeld => ?_)
                        clear hK K t0 t1 t2 f0 f1 f2
                        (try simp only [Act.put, List.setIfInBounds_toArray, List.set_cons_zero, List.set_cons_succ])
                        refine wpAnyH_ready (rs := [13]) (by kernel_rfl) (by simp) ?_
                        refine AllReadyH.cons rfl (fun K hK => ?_) AllReadyH.nil
                        go_simp
                        have hba : Below Z7.heap.size Z7 (Z7.alloc (.cells #[.bool (decide (r3.q.num < 0)), .slice r3.N (dg r3.q.num.natAbs).length r3.cn, .bool false, .slice r3.D (dg (dnz r3.q.den)).length r3.cd] 52)) := (Below.refl _ _).alloc (Nat.le_refl _) _
                        have BZ8 := below_all BZ7 hba
                        have HOK3 := Lib.hid (HOK3.out.keep hba)
                        have HNC := Lib.hid (cells_new Z7 52 [.bool (decide (r3.q.num < 0)), .slice r3.N (dg r3.q.num.natAbs).length r3.cn, .bool false, .slice r3.D (dg (dnz r3.q.den)).length r3.cd])
                        have hsz : (Z7.alloc (.cells #[.bool (decide (r3.q.num < 0)), .slice r3.N (dg r3.q.num.natAbs).length r3.cn, .bool false, .slice r3.D (dg (dnz r3.q.den)).length r3.cd] 52)).heap.size = Z7.heap.size + 1 := by simp
                        refine hK.out _ _ ⟨keep_cell (below_all HBO.out BZ8) h0, keep_cell (below_all HBO.out BZ8) h1, keep_cell (below_all HBO.out BZ8) a0, keep_cell (below_all HBO.out BZ8) a1, keep_cell (below_all HBO.out BZ8) a2, keep_cell (below_all HBO.out BZ8) a3, keep_cell (below_all HBO.out BZ8) b0, keep_cell (below_all HBO.out BZ8) b1, keep_cell (below_all HBO.out BZ8) b2, keep_cell (below_all HBO.out BZ8) b3⟩ (fun hHeld => ?_)
                        clear hK K hba
                        (try simp only [Act.put, List.setIfInBounds_toArray, List.set_cons_zero, List.set_cons_succ])
                        generalize Z7.alloc (.cells #[.bool (decide (r3.q.num < 0)), .slice r3.N (dg r3.q.num.natAbs).length r3.cn, .bool false, .slice r3.D (dg (dnz r3.q.den)).length r3.cd] 52) = Z8 at *
                        generalize Z7.heap.size = g13 at *
                        (try simp only [Act.put, List.setIfInBounds_toArray, List.set_cons_zero, List.set_cons_succ])
                        refine wpAnyH_ready (rs := [14]) (by kernel_rfl) (by simp) ?_
                        refine AllReadyH.cons rfl (fun K hK => ?_) AllReadyH.nil
                        have HLK := Lib.hid (HST.out.h1.keep BZ8)
                        have HLO := Lib.hid (HST.out.h2.keep BZ8)
                        have hown := HLK.out.own
                        have hbsz : bs ≤ Z8.heap.size := by have h1 := HLK.out.b.lt; have h2 := HLO.out.b.lt; rcases hbs2 with h3 | h3 <;> omega
                        have BI := below_all HBO.out BZ8
                        refine step_append_lies _ (by rfl) _ _ 27 (by rfl) bs 52 i0 _ 4 64 Tryz.underlying27 hi0 hz0 hz1 hz2 rfl (by decide) (.slice A1 k c1) k (la.flatMap RVal.cells) (by simp [Act.eval]) hown ⟨g13, 0, none⟩ 1 1 [.bool (decide (r3.q.num < 0)), .slice r3.N (dg r3.q.num.natAbs).length r3.cn, .bool false, .slice r3.D (dg (dnz r3.q.den)).length r3.cd] (by simp [Act.eval]) rfl HNC.out (by simp [Value.oneCell']) (by omega) (by simp only [maxLen]; omega) (by omega) hbsz (g13 + 1) hsz ?_
                        intro gn cap Z9 hown' hgrow hg2 _
                        have HGR := Lib.hid (HLK.out.grown (r := r3) HOK3.out hb25 hgrow hown')
                        have hoo := HLO.out.own
                        have HFR : Hid (some gn ≠ (Value.slice A2 k c2).ownBlock) := Lib.hid (far_step (w := Z8) (x := .slice A1 k c1) (y := .slice A2 k c2) (g := gn) (H := g13 + 1) HFAR.out hoo hsz hg2)
                        clear hoo
                        have BZ9 : Below wI.heap.size wI Z9 := BI.grown hgrow BI.size (fun j hj => by have := (hown.lt j hj).1; omega)
                        have HOA := Lib.hid (fun (x : Value) => LH.apart (x := x) HLO.out hown hgrow HFAS.out hb25 hne56.symm HGR.out.1)
                        refine hK.out _ _ ⟨keep_cell BZ9 h0, keep_cell BZ9 h1, keep_cell BZ9 a0, keep_cell BZ9 a1, keep_cell BZ9 a2, keep_cell BZ9 a3, keep_cell BZ9 b0, keep_cell BZ9 b1, keep_cell BZ9 b2, keep_cell BZ9 b3⟩ (fun hHeld => ?_)
                        clear hK K hown hown' hgrow hg2 hbsz hsz BI HLK HLO
                        (try simp only [Act.put, List.setIfInBounds_toArray])
                        refine wpAnyH_get 15 (some 167) (.pointer (some ⟨g25, 2, none⟩)) rfl rfl (by kernel_rfl) (by kernel_rfl) (by kernel_rfl) (fun _ _ _ h => h) (by rfl) hHeld ?_ ?_
                        · (intro w hSw; (try dsimp only at hSw); go_simp; all_goals (try with_reducible rfl))
                        (try simp only [Act.put])
                        refine wpAnyH_ready (rs := [16]) (by kernel_rfl) (by simp) ?_
                        refine AllReadyH.cons rfl (fun K hK => ?_) AllReadyH.nil
                        obtain ⟨t0, t1, t2, f0, f1, f2⟩ := HGR.out.1.three
                        go_simp
                        have HN1 := Lib.hid (LH.next HGR.out.1 HGR.out.2 hb25 HST.out.h1.l HST.out.h1.q (by rw [HVAL.out, HQ3.out]))
                        have HN2 := Lib.hid (HOA.out (.slice (some ⟨gn, 0, none⟩) (k + 1) cap))
                        have hBx := below_far BZ9 hi25 2 (.slice (some ⟨gn, 0, none⟩) (k + 1) cap)
                        have HLS : Hid (LS wI bs g25 g26 v d (List.zipWith (· + ·) qa qb) (qa.map (r.q * ·)) (Z9.setCell ⟨g25, 2, none⟩ (.slice (some ⟨gn, 0, none⟩) (k + 1) cap)) (k + 1) k (some ⟨gn, 0, none⟩) cap (la ++ [r3]) A2 c2 lb) := Lib.hid ⟨HN1.out, HN2.out, .inr (by simpa [Value.ownBlock] using HFR.out), hBx⟩
                        refine hK.out _ _ ⟨keep_cell hBx h0, keep_cell hBx h1, keep_cell hBx a0, keep_cell hBx a1, keep_cell hBx a2, keep_cell hBx a3, keep_cell hBx b0, keep_cell hBx b1, keep_cell hBx b2, keep_cell hBx b3⟩ (fun hHeld => ?_)
                        clear hK K t0 t1 t2 f0 f1 f2 HN1 HN2
                        (try simp only [Act.put, List.setIfInBounds_toArray, List.set_cons_zero, List.set_cons_succ])
                        refine wpAnyH_done (by kernel_rfl) ?_ _
                        have HXX := HLS
                        go_wp2
                        go_meet
                        exact ⟨rfl, _, _, _, HXX⟩
                      · go_simp
                        have hba : Below Z6.heap.size Z6 (Z6.alloc (.cells #[.bool (decide (r3.q.num < 0)), .slice r3.N (dg r3.q.num.natAbs).length r3.cn, .bool false, .slice r3.D (dg (dnz r3.q.den)).length r3.cd] 52)) := (Below.refl _ _).alloc (Nat.le_refl _) _
                        have BZ11 := below_all BZ6 hba
                        have HOK3 := Lib.hid (HOK3.out.keep hba)
                        have HNC := Lib.hid (cells_new Z6 52 [.bool (decide (r3.q.num < 0)), .slice r3.N (dg r3.q.num.natAbs).length r3.cn, .bool false, .slice r3.D (dg (dnz r3.q.den)).length r3.cd])
                        have hsz : (Z6.alloc (.cells #[.bool (decide (r3.q.num < 0)), .slice r3.N (dg r3.q.num.natAbs).length r3.cn, .bool false, .slice r3.D (dg (dnz r3.q.den)).length r3.cd] 52)).heap.size = Z6.heap.size + 1 := by simp
                        refine hK.out _ _ ⟨keep_cell (below_all HBO.out BZ11) h0, keep_cell (below_all HBO.out BZ11) h1, keep_cell (below_all HBO.out BZ11) a0, keep_cell (below_all HBO.out BZ11) a1, keep_cell (below_all HBO.out BZ11) a2, keep_cell (below_all HBO.out BZ11) a3, keep_cell (below_all HBO.out BZ11) b0, keep_cell (below_all HBO.out BZ11) b1, keep_cell (below_all HBO.out BZ11) b2, keep_cell (below_all HBO.out BZ11) b3⟩ (fun hHeld => ?_)
                        clear hK K hba
                        (try simp only [Act.put, List.setIfInBounds_toArray, List.set_cons_zero, List.set_cons_succ])
                        generalize Z6.alloc (.cells #[.bool (decide (r3.q.num < 0)), .slice r3.N (dg r3.q.num.natAbs).length r3.cn, .bool false, .slice r3.D (dg (dnz r3.q.den)).length r3.cd] 52) = Z11 at *
                        generalize Z6.heap.size = g13 at *
                        (try simp only [Act.put, List.setIfInBounds_toArray, List.set_cons_zero, List.set_cons_succ])
                        refine wpAnyH_ready (rs := [1]) (by kernel_rfl) (by simp) ?_
                        refine AllReadyH.cons rfl (fun K hK => ?_) AllReadyH.nil
                        obtain ⟨t0, t1, t2, f0, f1, f2⟩ := (HST.out.h1.b.keep BZ11 HST.out.h1.b.lt).three
                        go_simp
                        obtain ⟨Z12, rfl⟩ : ∃ x : World, x = Z11 := ⟨_, rfl⟩
                        have BZ12 := BZ11
                        refine hK.out _ _ ⟨keep_cell (below_all HBO.out BZ12) h0, keep_cell (below_all HBO.out BZ12) h1, keep_cell (below_all HBO.out BZ12) a0, keep_cell (below_all HBO.out BZ12) a1, keep_cell (below_all HBO.out BZ12) a2, keep_cell (below_all HBO.out BZ12) a3, keep_cell (below_all HBO.out BZ12) b0, keep_cell (below_all HBO.out BZ12) b1, keep_cell (below_all HBO.out BZ12) b2, keep_cell (below_all HBO.out BZ12) b3⟩ (fun hHeld => ?_)
                        clear hK K t0 t1 t2 f0 f1 f2
                        (try simp only [Act.put, List.setIfInBounds_toArray, List.set_cons_zero, List.set_cons_succ])
                        refine wpAnyH_ready (rs := [14]) (by kernel_rfl) (by simp) ?_
                        refine AllReadyH.cons rfl (fun K hK => ?_) AllReadyH.nil
                        have HLK := Lib.hid (HST.out.h1.keep BZ12)
                        have HLO := Lib.hid (HST.out.h2.keep BZ12)
                        have hown := HLK.out.own
                        have hbsz : bs ≤ Z12.heap.size := by have h1 := HLK.out.b.lt; have h2 := HLO.out.b.lt; rcases hbs2 with h3 | h3 <;> omega
                        have BI := below_all HBO.out BZ12
                        refine step_append_lies _ (by rfl) _ _ 27 (by rfl) bs 52 i0 _ 4 64 Tryz.underlying27 hi0 hz0 hz1 hz2 rfl (by decide) (.slice A1 k c1) k (la.flatMap RVal.cells) (by simp [Act.eval]) hown ⟨g13, 0, none⟩ 1 1 [.bool (decide (r3.q.num < 0)), .slice r3.N (dg r3.q.num.natAbs).length r3.cn, .bool false, .slice r3.D (dg (dnz r3.q.den)).length r3.cd] (by simp [Act.eval]) rfl HNC.out (by simp [Value.oneCell']) (by omega) (by simp only [maxLen]; omega) (by omega) hbsz (g13 + 1) hsz ?_
                        intro gn cap Z13 hown' hgrow hg2 _
                        have HGR := Lib.hid (HLK.out.grown (r := r3) HOK3.out hb25 hgrow hown')
                        have hoo := HLO.out.own
                        have HFR : Hid (some gn ≠ (Value.slice A2 k c2).ownBlock) := Lib.hid (far_step (w := Z12) (x := .slice A1 k c1) (y := .slice A2 k c2) (g := gn) (H := g13 + 1) HFAR.out hoo hsz hg2)
                        clear hoo
                        have BZ13 : Below wI.heap.size wI Z13 := BI.grown hgrow BI.size (fun j hj => by have := (hown.lt j hj).1; omega)
                        have HOA := Lib.hid (fun (x : Value) => LH.apart (x := x) HLO.out hown hgrow HFAS.out hb25 hne56.symm HGR.out.1)
                        refine hK.out _ _ ⟨keep_cell BZ13 h0, keep_cell BZ13 h1, keep_cell BZ13 a0, keep_cell BZ13 a1, keep_cell BZ13 a2, keep_cell BZ13 a3, keep_cell BZ13 b0, keep_cell BZ13 b1, keep_cell BZ13 b2, keep_cell BZ13 b3⟩ (fun hHeld => ?_)
                        clear hK K hown hown' hgrow hg2 hbsz hsz BI HLK HLO
                        (try simp only [Act.put, List.setIfInBounds_toArray])
                        refine wpAnyH_get 15 (some 167) (.pointer (some ⟨g25, 2, none⟩)) rfl rfl (by kernel_rfl) (by kernel_rfl) (by kernel_rfl) (fun _ _ _ h => h) (by rfl) hHeld ?_ ?_
                        · (intro w hSw; (try dsimp only at hSw); go_simp; all_goals (try with_reducible rfl))
                        (try simp only [Act.put])
                        refine wpAnyH_ready (rs := [16]) (by kernel_rfl) (by simp) ?_
                        refine AllReadyH.cons rfl (fun K hK => ?_) AllReadyH.nil
                        obtain ⟨t0, t1, t2, f0, f1, f2⟩ := HGR.out.1.three
                        go_simp
                        have HN1 := Lib.hid (LH.next HGR.out.1 HGR.out.2 hb25 HST.out.h1.l HST.out.h1.q (by rw [HVAL.out, HQ3.out]))
                        have HN2 := Lib.hid (HOA.out (.slice (some ⟨gn, 0, none⟩) (k + 1) cap))
                        have hBx := below_far BZ13 hi25 2 (.slice (some ⟨gn, 0, none⟩) (k + 1) cap)
                        have HLS : Hid (LS wI bs g25 g26 v d (List.zipWith (· + ·) qa qb) (qa.map (r.q * ·)) (Z13.setCell ⟨g25, 2, none⟩ (.slice (some ⟨gn, 0, none⟩) (k + 1) cap)) (k + 1) k (some ⟨gn, 0, none⟩) cap (la ++ [r3]) A2 c2 lb) := Lib.hid ⟨HN1.out, HN2.out, .inr (by simpa [Value.ownBlock] using HFR.out), hBx⟩
                        refine hK.out _ _ ⟨keep_cell hBx h0, keep_cell hBx h1, keep_cell hBx a0, keep_cell hBx a1, keep_cell hBx a2, keep_cell hBx a3, keep_cell hBx b0, keep_cell hBx b1, keep_cell hBx b2, keep_cell hBx b3⟩ (fun hHeld => ?_)
                        clear hK K t0 t1 t2 f0 f1 f2 HN1 HN2
                        (try simp only [Act.put, List.setIfInBounds_toArray, List.set_cons_zero, List.set_cons_succ])
                        refine wpAnyH_done (by kernel_rfl) ?_ _
                        have HXX := HLS
                        go_wp2
                        go_meet
                        exact ⟨rfl, _, _, _, HXX⟩
    
                obtain ⟨hs27, A1, c1, la, HST⟩ := hcut
                subst hs27
                obtain ⟨wo, rfl⟩ : ∃ x : World, x = wc := ⟨_, rfl⟩
  
                have HBO := Lib.hid HST.out.below
                have HFAR := Lib.hid (far_symm HST.out.far)
                have HFAS := Lib.hid HST.out.far
                have HCA := HMUL
                have HVAL := HSBk
                go_upto_region 30 with (fail)
                have BZ : Below wo.heap.size wo wo.drew := (Below.refl _ _).drew
                refine wp_region_held_drew (S := (fun w' => w'.cell? ⟨g10, 0, none⟩ = some (.bool (decide (r.q.num < 0))) ∧ w'.cell? ⟨g10, 1, none⟩ = some (.slice r.N (dg r.q.num.natAbs).length r.cn) ∧ w'.cell? ⟨g10, 2, none⟩ = some (.bool false) ∧ w'.cell? ⟨g10, 3, none⟩ = some (.slice r.D (dg (dnz r.q.den)).length r.cd) ∧ w'.cell? ⟨g23, 2, none⟩ = some (.slice (some aa) N cl1) ∧ w'.cell? (aa.add (k * 4)) = some (.bool sa) ∧ w'.cell? ⟨(aa.add (k * 4)).block, (aa.add (k * 4)).off + 1, none⟩ = some (.slice Na ma ea) ∧ w'.cell? ⟨(aa.add (k * 4)).block, (aa.add (k * 4)).off + 2, none⟩ = some (.bool false) ∧ w'.cell? ⟨(aa.add (k * 4)).block, (aa.add (k * 4)).off + 3, none⟩ = some (.slice Da oa fa))) (by kernel_rfl) ⟨keep_cell (below_all HBO.out BZ) r0, keep_cell (below_all HBO.out BZ) r1, keep_cell (below_all HBO.out BZ) r2, keep_cell (below_all HBO.out BZ) r3c, keep_cell (below_all HBO.out BZ) h0, keep_cell (below_all HBO.out BZ) a0, keep_cell (below_all HBO.out BZ) a1, keep_cell (below_all HBO.out BZ) a2, keep_cell (below_all HBO.out BZ) a3⟩ (fun hHeld => ?_)
                generalize wo.drew = Z at *
                refine wpAnyH_get 0 (some 168) (.pointer (some ⟨g26, 2, none⟩)) rfl rfl (by kernel_rfl) (by kernel_rfl) (by kernel_rfl) (fun _ _ _ h => h) (by rfl) hHeld ?_ ?_
                · (intro w hSw; (try dsimp only at hSw); go_simp; all_goals (try with_reducible rfl))
                (try simp only [Act.put, List.setIfInBounds_toArray, List.set_cons_zero, List.set_cons_succ])
                refine wpAnyH_get 2 (some 170) (.agg #[.bool (decide (r.q.num < 0)), .slice r.N (dg r.q.num.natAbs).length r.cn, .bool false, .slice r.D (dg (dnz r.q.den)).length r.cd]) rfl rfl (by kernel_rfl) (by kernel_rfl) (by kernel_rfl) (fun _ _ _ h => h) (by rfl) hHeld ?_ ?_
                · (intro w hSw; (try dsimp only at hSw); go_simp; all_goals (try with_reducible rfl))
                (try simp only [Act.put, List.setIfInBounds_toArray, List.set_cons_zero, List.set_cons_succ])
                refine wpAnyH_get 3 (some 171) (.pointer (some ⟨g23, 2, none⟩)) rfl rfl (by kernel_rfl) (by kernel_rfl) (by kernel_rfl) (fun _ _ _ h => h) (by rfl) hHeld ?_ ?_
                · (intro w hSw; (try dsimp only at hSw); go_simp; all_goals (try with_reducible rfl))
                (try simp only [Act.put, List.setIfInBounds_toArray, List.set_cons_zero, List.set_cons_succ])
                refine wpAnyH_get 4 (some 172) (.slice (some aa) N cl1) rfl rfl (by kernel_rfl) (by kernel_rfl) (by kernel_rfl) (fun _ _ _ h => h) (by rfl) hHeld ?_ ?_
                · (intro w hSw; (try dsimp only at hSw); go_simp; all_goals (try with_reducible rfl))
                (try simp only [Act.put, List.setIfInBounds_toArray, List.set_cons_zero, List.set_cons_succ])
                refine wpAnyH_get 5 (some 173) (.int .i64 (k : Nat)) rfl rfl (by kernel_rfl) (by kernel_rfl) (by kernel_rfl) (fun _ _ _ h => h) (by rfl) hHeld ?_ ?_
                · (intro w hSw; (try dsimp only at hSw); go_simp; all_goals (try with_reducible rfl))
                (try simp only [Act.put, List.setIfInBounds_toArray, List.set_cons_zero, List.set_cons_succ])
                refine wpAnyH_get 6 (some 174) (.pointer (some (aa.add (k * 4)))) rfl rfl (by kernel_rfl) (by kernel_rfl) (by kernel_rfl) (fun _ _ _ h => h) (by rfl) hHeld ?_ ?_
                · (intro w hSw; (try dsimp only at hSw); go_simp; all_goals (try with_reducible rfl))
                (try simp only [Act.put, List.setIfInBounds_toArray, List.set_cons_zero, List.set_cons_succ])
                refine wpAnyH_get 7 (some 175) (.agg #[.bool sa, .slice Na ma ea, .bool false, .slice Da oa fa]) rfl rfl (by kernel_rfl) (by kernel_rfl) (by kernel_rfl) (fun _ _ _ h => h) (by rfl) hHeld ?_ ?_
                · (intro w hSw; (try dsimp only at hSw); go_simp; all_goals (try with_reducible rfl))
                (try simp only [Act.put, List.setIfInBounds_toArray, List.set_cons_zero, List.set_cons_succ])
                refine wpAnyH_ready (rs := [1, 8]) (by kernel_rfl) (by simp) ?_
                refine AllReadyH.cons rfl (fun K hK => ?_) (AllReadyH.cons rfl (fun K hK => ?_) AllReadyH.nil)
                · obtain ⟨t0, t1, t2, f0, f1, f2⟩ := (HST.out.h2.b.keep BZ HST.out.h2.b.lt).three
                  go_simp
                  obtain ⟨Z1, rfl⟩ : ∃ x : World, x = Z := ⟨_, rfl⟩
                  have BZ1 := BZ
                  refine hK.out _ _ ⟨keep_cell (below_all HBO.out BZ1) r0, keep_cell (below_all HBO.out BZ1) r1, keep_cell (below_all HBO.out BZ1) r2, keep_cell (below_all HBO.out BZ1) r3c, keep_cell (below_all HBO.out BZ1) h0, keep_cell (below_all HBO.out BZ1) a0, keep_cell (below_all HBO.out BZ1) a1, keep_cell (below_all HBO.out BZ1) a2, keep_cell (below_all HBO.out BZ1) a3⟩ (fun hHeld => ?_)
                  clear hK K t0 t1 t2 f0 f1 f2
                  (try simp only [Act.put, List.setIfInBounds_toArray, List.set_cons_zero, List.set_cons_succ])
                  refine wpAnyH_ready (rs := [8]) (by kernel_rfl) (by simp) ?_
                  refine AllReadyH.cons rfl (fun K hK => ?_) AllReadyH.nil
                  go_simp
                  refine (HCA.out _ (below_all HBO.out BZ1)).mono ?_
                  rintro e Z2 ⟨r3, hq3, rfl, hok3, hb⟩
                  have HQ3 := Lib.hid hq3
                  have HOK3 := Lib.hid hok3
                  clear hq3 hok3
                  have BZ2 := below_all BZ1 hb
                  (try unfold RVal.val)
                  (try go_simp)
                  refine hK.out _ _ ⟨keep_cell (below_all HBO.out BZ2) r0, keep_cell (below_all HBO.out BZ2) r1, keep_cell (below_all HBO.out BZ2) r2, keep_cell (below_all HBO.out BZ2) r3c, keep_cell (below_all HBO.out BZ2) h0, keep_cell (below_all HBO.out BZ2) a0, keep_cell (below_all HBO.out BZ2) a1, keep_cell (below_all HBO.out BZ2) a2, keep_cell (below_all HBO.out BZ2) a3⟩ (fun hHeld => ?_)
                  clear hK K hb
                  (try simp only [Act.put, List.setIfInBounds_toArray, List.set_cons_zero, List.set_cons_succ])
                  refine wpAnyH_ready (rs := [9]) (by kernel_rfl) (by simp) ?_
                  refine AllReadyH.cons rfl (fun K hK => ?_) AllReadyH.nil
                  go_simp
                  have hba : Below Z2.heap.size Z2 (Z2.alloc (.cells #[.bool (decide (r3.q.num < 0)), .slice r3.N (dg r3.q.num.natAbs).length r3.cn, .bool false, .slice r3.D (dg (dnz r3.q.den)).length r3.cd] 52)) := (Below.refl _ _).alloc (Nat.le_refl _) _
                  have BZ3 := below_all BZ2 hba
                  have HOK3 := Lib.hid (HOK3.out.keep hba)
                  have HNC := Lib.hid (cells_new Z2 52 [.bool (decide (r3.q.num < 0)), .slice r3.N (dg r3.q.num.natAbs).length r3.cn, .bool false, .slice r3.D (dg (dnz r3.q.den)).length r3.cd])
                  have hsz : (Z2.alloc (.cells #[.bool (decide (r3.q.num < 0)), .slice r3.N (dg r3.q.num.natAbs).length r3.cn, .bool false, .slice r3.D (dg (dnz r3.q.den)).length r3.cd] 52)).heap.size = Z2.heap.size + 1 := by simp
                  refine hK.out _ _ ⟨keep_cell (below_all HBO.out BZ3) r0, keep_cell (below_all HBO.out BZ3) r1, keep_cell (below_all HBO.out BZ3) r2, keep_cell (below_all HBO.out BZ3) r3c, keep_cell (below_all HBO.out BZ3) h0, keep_cell (below_all HBO.out BZ3) a0, keep_cell (below_all HBO.out BZ3) a1, keep_cell (below_all HBO.out BZ3) a2, keep_cell (below_all HBO.out BZ3) a3⟩ (fun hHeld => ?_)
                  clear hK K hba
                  (try simp only [Act.put, List.setIfInBounds_toArray, List.set_cons_zero, List.set_cons_succ])
                  generalize Z2.alloc (.cells #[.bool (decide (r3.q.num < 0)), .slice r3.N (dg r3.q.num.natAbs).length r3.cn, .bool false, .slice r3.D (dg (dnz r3.q.den)).length r3.cd] 52) = Z3 at *
                  generalize Z2.heap.size = g13 at *
                  (try simp only [Act.put, List.setIfInBounds_toArray, List.set_cons_zero, List.set_cons_succ])
                  refine wpAnyH_ready (rs := [10]) (by kernel_rfl) (by simp) ?_
                  refine AllReadyH.cons rfl (fun K hK => ?_) AllReadyH.nil
                  have HLK := Lib.hid (HST.out.h2.keep BZ3)
                  have HLO := Lib.hid (HST.out.h1.keep BZ3)
                  have hown := HLK.out.own
                  have hbsz : bs ≤ Z3.heap.size := by have h1 := HLK.out.b.lt; have h2 := HLO.out.b.lt; rcases hbs2 with h3 | h3 <;> omega
                  have BI := below_all HBO.out BZ3
                  refine step_append_lies _ (by rfl) _ _ 27 (by rfl) bs 52 i0 _ 4 64 Tryz.underlying27 hi0 hz0 hz1 hz2 rfl (by decide) (.slice A2 k c2) k (lb.flatMap RVal.cells) (by simp [Act.eval]) hown ⟨g13, 0, none⟩ 1 1 [.bool (decide (r3.q.num < 0)), .slice r3.N (dg r3.q.num.natAbs).length r3.cn, .bool false, .slice r3.D (dg (dnz r3.q.den)).length r3.cd] (by simp [Act.eval]) rfl HNC.out (by simp [Value.oneCell']) (by omega) (by simp only [maxLen]; omega) (by omega) hbsz (g13 + 1) hsz ?_
                  intro gn cap Z4 hown' hgrow hg2 _
                  have HGR := Lib.hid (HLK.out.grown (r := r3) HOK3.out hb26 hgrow hown')
                  have hoo := HLO.out.own
                  have HFR : Hid (some gn ≠ (Value.slice A1 (k + 1) c1).ownBlock) := Lib.hid (far_step (w := Z3) (x := .slice A2 k c2) (y := .slice A1 (k + 1) c1) (g := gn) (H := g13 + 1) HFAR.out hoo hsz hg2)
                  clear hoo
                  have BZ4 : Below wI.heap.size wI Z4 := BI.grown hgrow BI.size (fun j hj => by have := (hown.lt j hj).1; omega)
                  have HOA := Lib.hid (fun (x : Value) => LH.apart (x := x) HLO.out hown hgrow HFAS.out hb26 hne56 HGR.out.1)
                  refine hK.out _ _ ⟨keep_cell BZ4 r0, keep_cell BZ4 r1, keep_cell BZ4 r2, keep_cell BZ4 r3c, keep_cell BZ4 h0, keep_cell BZ4 a0, keep_cell BZ4 a1, keep_cell BZ4 a2, keep_cell BZ4 a3⟩ (fun hHeld => ?_)
                  clear hK K hown hown' hgrow hg2 hbsz hsz BI HLK HLO
                  (try simp only [Act.put, List.setIfInBounds_toArray])
                  refine wpAnyH_get 11 (some 179) (.pointer (some ⟨g26, 2, none⟩)) rfl rfl (by kernel_rfl) (by kernel_rfl) (by kernel_rfl) (fun _ _ _ h => h) (by rfl) hHeld ?_ ?_
                  · (intro w hSw; (try dsimp only at hSw); go_simp; all_goals (try with_reducible rfl))
                  (try simp only [Act.put])
                  refine wpAnyH_ready (rs := [12]) (by kernel_rfl) (by simp) ?_
                  refine AllReadyH.cons rfl (fun K hK => ?_) AllReadyH.nil
                  obtain ⟨t0, t1, t2, f0, f1, f2⟩ := HGR.out.1.three
                  go_simp
                  have HN1 := Lib.hid (LH.next HGR.out.1 HGR.out.2 hb26 HST.out.h2.l HST.out.h2.q (by rw [HVAL.out, HQ3.out]))
                  have HN2 := Lib.hid (HOA.out (.slice (some ⟨gn, 0, none⟩) (k + 1) cap))
                  have hBx := below_far BZ4 hi26 2 (.slice (some ⟨gn, 0, none⟩) (k + 1) cap)
                  have HLS : Hid (LS wI bs g25 g26 v d (List.zipWith (· + ·) qa qb) (qa.map (r.q * ·)) (Z4.setCell ⟨g26, 2, none⟩ (.slice (some ⟨gn, 0, none⟩) (k + 1) cap)) (k + 1) (k + 1) A1 c1 la (some ⟨gn, 0, none⟩) cap (lb ++ [r3])) := Lib.hid ⟨HN2.out, HN1.out, .inr (by simpa [Value.ownBlock] using HFR.out.symm), hBx⟩
                  refine hK.out _ _ ⟨keep_cell hBx r0, keep_cell hBx r1, keep_cell hBx r2, keep_cell hBx r3c, keep_cell hBx h0, keep_cell hBx a0, keep_cell hBx a1, keep_cell hBx a2, keep_cell hBx a3⟩ (fun hHeld => ?_)
                  clear hK K t0 t1 t2 f0 f1 f2 HN1 HN2
                  (try simp only [Act.put, List.setIfInBounds_toArray, List.set_cons_zero, List.set_cons_succ])
                  refine wpAnyH_done (by kernel_rfl) ?_ _
                  have HXX := HLS
                  go_wp2
                  go_roundw
                  case rel => exact ⟨k + 1, _, _, _, _, _, _, by go_num, by omega, HXX⟩
                  case measure => simp [intOf]; omega
                · go_simp
                  refine (HCA.out _ (below_all HBO.out BZ)).mono ?_
                  rintro e Z6 ⟨r3, hq3, rfl, hok3, hb⟩
                  have HQ3 := Lib.hid hq3
                  have HOK3 := Lib.hid hok3
                  clear hq3 hok3
                  have BZ6 := below_all BZ hb
                  (try unfold RVal.val)
                  (try go_simp)
                  refine hK.out _ _ ⟨keep_cell (below_all HBO.out BZ6) r0, keep_cell (below_all HBO.out BZ6) r1, keep_cell (below_all HBO.out BZ6) r2, keep_cell (below_all HBO.out BZ6) r3c, keep_cell (below_all HBO.out BZ6) h0, keep_cell (below_all HBO.out BZ6) a0, keep_cell (below_all HBO.out BZ6) a1, keep_cell (below_all HBO.out BZ6) a2, keep_cell (below_all HBO.out BZ6) a3⟩ (fun hHeld => ?_)
                  clear hK K hb
                  (try simp only [Act.put, List.setIfInBounds_toArray, List.set_cons_zero, List.set_cons_succ])
                  refine wpAnyH_ready (rs := [1, 9]) (by kernel_rfl) (by simp) ?_
                  refine AllReadyH.cons rfl (fun K hK => ?_) (AllReadyH.cons rfl (fun K hK => ?_) AllReadyH.nil)
                  · obtain ⟨t0, t1, t2, f0, f1, f2⟩ := (HST.out.h2.b.keep BZ6 HST.out.h2.b.lt).three
                    go_simp
                    obtain ⟨Z7, rfl⟩ : ∃ x : World, x = Z6 := ⟨_, rfl⟩
                    have BZ7 := BZ6
                    refine hK.out _ _ ⟨keep_cell (below_all HBO.out BZ7) r0, keep_cell (below_all HBO.out BZ7) r1, keep_cell (below_all HBO.out BZ7) r2, keep_cell (below_all HBO.out BZ7) r3c, keep_cell (below_all HBO.out BZ7) h0, keep_cell (below_all HBO.out BZ7) a0, keep_cell (below_all HBO.out BZ7) a1, keep_cell (below_all HBO.out BZ7) a2, keep_cell (below_all HBO.out BZ7) a3⟩ (fun hHeld => ?_)
                    clear hK K t0 t1 t2 f0 f1 f2
                    (try simp only [Act.put, List.setIfInBounds_toArray, List.set_cons_zero, List.set_cons_succ])
                    refine wpAnyH_ready (rs := [9]) (by kernel_rfl) (by simp) ?_
                    refine AllReadyH.cons rfl (fun K hK => ?_) AllReadyH.nil
                    go_simp
                    have hba : Below Z7.heap.size Z7 (Z7.alloc (.cells #[.bool (decide (r3.q.num < 0)), .slice r3.N (dg r3.q.num.natAbs).length r3.cn, .bool false, .slice r3.D (dg (dnz r3.q.den)).length r3.cd] 52)) := (Below.refl _ _).alloc (Nat.le_refl _) _
                    have BZ8 := below_all BZ7 hba
                    have HOK3 := Lib.hid (HOK3.out.keep hba)
                    have HNC := Lib.hid (cells_new Z7 52 [.bool (decide (r3.q.num < 0)), .slice r3.N (dg r3.q.num.natAbs).length r3.cn, .bool false, .slice r3.D (dg (dnz r3.q.den)).length r3.cd])
                    have hsz : (Z7.alloc (.cells #[.bool (decide (r3.q.num < 0)), .slice r3.N (dg r3.q.num.natAbs).length r3.cn, .bool false, .slice r3.D (dg (dnz r3.q.den)).length r3.cd] 52)).heap.size = Z7.heap.size + 1 := by simp
                    refine hK.out _ _ ⟨keep_cell (below_all HBO.out BZ8) r0, keep_cell (below_all HBO.out BZ8) r1, keep_cell (below_all HBO.out BZ8) r2, keep_cell (below_all HBO.out BZ8) r3c, keep_cell (below_all HBO.out BZ8) h0, keep_cell (below_all HBO.out BZ8) a0, keep_cell (below_all HBO.out BZ8) a1, keep_cell (below_all HBO.out BZ8) a2, keep_cell (below_all HBO.out BZ8) a3⟩ (fun hHeld => ?_)
                    clear hK K hba
                    (try simp only [Act.put, List.setIfInBounds_toArray, List.set_cons_zero, List.set_cons_succ])
                    generalize Z7.alloc (.cells #[.bool (decide (r3.q.num < 0)), .slice r3.N (dg r3.q.num.natAbs).length r3.cn, .bool false, .slice r3.D (dg (dnz r3.q.den)).length r3.cd] 52) = Z8 at *
                    generalize Z7.heap.size = g13 at *
                    (try simp only [Act.put, List.setIfInBounds_toArray, List.set_cons_zero, List.set_cons_succ])
                    refine wpAnyH_ready (rs := [10]) (by kernel_rfl) (by simp) ?_
                    refine AllReadyH.cons rfl (fun K hK => ?_) AllReadyH.nil
                    have HLK := Lib.hid (HST.out.h2.keep BZ8)
                    have HLO := Lib.hid (HST.out.h1.keep BZ8)
                    have hown := HLK.out.own
                    have hbsz : bs ≤ Z8.heap.size := by have h1 := HLK.out.b.lt; have h2 := HLO.out.b.lt; rcases hbs2 with h3 | h3 <;> omega
                    have BI := below_all HBO.out BZ8
                    refine step_append_lies _ (by rfl) _ _ 27 (by rfl) bs 52 i0 _ 4 64 Tryz.underlying27 hi0 hz0 hz1 hz2 rfl (by decide) (.slice A2 k c2) k (lb.flatMap RVal.cells) (by simp [Act.eval]) hown ⟨g13, 0, none⟩ 1 1 [.bool (decide (r3.q.num < 0)), .slice r3.N (dg r3.q.num.natAbs).length r3.cn, .bool false, .slice r3.D (dg (dnz r3.q.den)).length r3.cd] (by simp [Act.eval]) rfl HNC.out (by simp [Value.oneCell']) (by omega) (by simp only [maxLen]; omega) (by omega) hbsz (g13 + 1) hsz ?_
                    intro gn cap Z9 hown' hgrow hg2 _
                    have HGR := Lib.hid (HLK.out.grown (r := r3) HOK3.out hb26 hgrow hown')
                    have hoo := HLO.out.own
                    have HFR : Hid (some gn ≠ (Value.slice A1 (k + 1) c1).ownBlock) := Lib.hid (far_step (w := Z8) (x := .slice A2 k c2) (y := .slice A1 (k + 1) c1) (g := gn) (H := g13 + 1) HFAR.out hoo hsz hg2)
                    clear hoo
                    have BZ9 : Below wI.heap.size wI Z9 := BI.grown hgrow BI.size (fun j hj => by have := (hown.lt j hj).1; omega)
                    have HOA := Lib.hid (fun (x : Value) => LH.apart (x := x) HLO.out hown hgrow HFAS.out hb26 hne56 HGR.out.1)
                    refine hK.out _ _ ⟨keep_cell BZ9 r0, keep_cell BZ9 r1, keep_cell BZ9 r2, keep_cell BZ9 r3c, keep_cell BZ9 h0, keep_cell BZ9 a0, keep_cell BZ9 a1, keep_cell BZ9 a2, keep_cell BZ9 a3⟩ (fun hHeld => ?_)
                    clear hK K hown hown' hgrow hg2 hbsz hsz BI HLK HLO
                    (try simp only [Act.put, List.setIfInBounds_toArray])
                    refine wpAnyH_get 11 (some 179) (.pointer (some ⟨g26, 2, none⟩)) rfl rfl (by kernel_rfl) (by kernel_rfl) (by kernel_rfl) (fun _ _ _ h => h) (by rfl) hHeld ?_ ?_
                    · (intro w hSw; (try dsimp only at hSw); go_simp; all_goals (try with_reducible rfl))
                    (try simp only [Act.put])
                    refine wpAnyH_ready (rs := [12]) (by kernel_rfl) (by simp) ?_
                    refine AllReadyH.cons rfl (fun K hK => ?_) AllReadyH.nil
                    obtain ⟨t0, t1, t2, f0, f1, f2⟩ := HGR.out.1.three
                    go_simp
                    have HN1 := Lib.hid (LH.next HGR.out.1 HGR.out.2 hb26 HST.out.h2.l HST.out.h2.q (by rw [HVAL.out, HQ3.out]))
                    have HN2 := Lib.hid (HOA.out (.slice (some ⟨gn, 0, none⟩) (k + 1) cap))
                    have hBx := below_far BZ9 hi26 2 (.slice (some ⟨gn, 0, none⟩) (k + 1) cap)
                    have HLS : Hid (LS wI bs g25 g26 v d (List.zipWith (· + ·) qa qb) (qa.map (r.q * ·)) (Z9.setCell ⟨g26, 2, none⟩ (.slice (some ⟨gn, 0, none⟩) (k + 1) cap)) (k + 1) (k + 1) A1 c1 la (some ⟨gn, 0, none⟩) cap (lb ++ [r3])) := Lib.hid ⟨HN2.out, HN1.out, .inr (by simpa [Value.ownBlock] using HFR.out.symm), hBx⟩
                    refine hK.out _ _ ⟨keep_cell hBx r0, keep_cell hBx r1, keep_cell hBx r2, keep_cell hBx r3c, keep_cell hBx h0, keep_cell hBx a0, keep_cell hBx a1, keep_cell hBx a2, keep_cell hBx a3⟩ (fun hHeld => ?_)
                    clear hK K t0 t1 t2 f0 f1 f2 HN1 HN2
                    (try simp only [Act.put, List.setIfInBounds_toArray, List.set_cons_zero, List.set_cons_succ])
                    refine wpAnyH_done (by kernel_rfl) ?_ _
                    have HXX := HLS
                    go_wp2
                    go_roundw
                    case rel => exact ⟨k + 1, _, _, _, _, _, _, by go_num, by omega, HXX⟩
                    case measure => simp [intOf]; omega
                  · go_simp
                    have hba : Below Z6.heap.size Z6 (Z6.alloc (.cells #[.bool (decide (r3.q.num < 0)), .slice r3.N (dg r3.q.num.natAbs).length r3.cn, .bool false, .slice r3.D (dg (dnz r3.q.den)).length r3.cd] 52)) := (Below.refl _ _).alloc (Nat.le_refl _) _
                    have BZ11 := below_all BZ6 hba
                    have HOK3 := Lib.hid (HOK3.out.keep hba)
                    have HNC := Lib.hid (cells_new Z6 52 [.bool (decide (r3.q.num < 0)), .slice r3.N (dg r3.q.num.natAbs).length r3.cn, .bool false, .slice r3.D (dg (dnz r3.q.den)).length r3.cd])
                    have hsz : (Z6.alloc (.cells #[.bool (decide (r3.q.num < 0)), .slice r3.N (dg r3.q.num.natAbs).length r3.cn, .bool false, .slice r3.D (dg (dnz r3.q.den)).length r3.cd] 52)).heap.size = Z6.heap.size + 1 := by simp
                    refine hK.out _ _ ⟨keep_cell (below_all HBO.out BZ11) r0, keep_cell (below_all HBO.out BZ11) r1, keep_cell (below_all HBO.out BZ11) r2, keep_cell (below_all HBO.out BZ11) r3c, keep_cell (below_all HBO.out BZ11) h0, keep_cell (below_all HBO.out BZ11) a0, keep_cell (below_all HBO.out BZ11) a1, keep_cell (below_all HBO.out BZ11) a2, keep_cell (below_all HBO.out BZ11) a3⟩ (fun hHeld => ?_)
                    clear hK K hba
                    (try simp only [Act.put, List.setIfInBounds_toArray, List.set_cons_zero, List.set_cons_succ])
                    generalize Z6.alloc (.cells #[.bool (decide (r3.q.num < 0)), .slice r3.N (dg r3.q.num.natAbs).length r3.cn, .bool false, .slice r3.D (dg (dnz r3.q.den)).length r3.cd] 52) = Z11 at *
                    generalize Z6.heap.size = g13 at *
                    (try simp only [Act.put, List.setIfInBounds_toArray, List.set_cons_zero, List.set_cons_succ])
                    refine wpAnyH_ready (rs := [1]) (by kernel_rfl) (by simp) ?_
                    refine AllReadyH.cons rfl (fun K hK => ?_) AllReadyH.nil
                    obtain ⟨t0, t1, t2, f0, f1, f2⟩ := (HST.out.h2.b.keep BZ11 HST.out.h2.b.lt).three
                    go_simp
                    obtain ⟨Z12, rfl⟩ : ∃ x : World, x = Z11 := ⟨_, rfl⟩
                    have BZ12 := BZ11
                    refine hK.out _ _ ⟨keep_cell (below_all HBO.out BZ12) r0, keep_cell (below_all HBO.out BZ12) r1, keep_cell (below_all HBO.out BZ12) r2, keep_cell (below_all HBO.out BZ12) r3c, keep_cell (below_all HBO.out BZ12) h0, keep_cell (below_all HBO.out BZ12) a0, keep_cell (below_all HBO.out BZ12) a1, keep_cell (below_all HBO.out BZ12) a2, keep_cell (below_all HBO.out BZ12) a3⟩ (fun hHeld => ?_)
                    clear hK K t0 t1 t2 f0 f1 f2
                    (try simp only [Act.put, List.setIfInBounds_toArray, List.set_cons_zero, List.set_cons_succ])
                    refine wpAnyH_ready (rs := [10]) (by kernel_rfl) (by simp) ?_
                    refine AllReadyH.cons rfl (fun K hK => ?_) AllReadyH.nil
                    have HLK := Lib.hid (HST.out.h2.keep BZ12)
                    have HLO := Lib.hid (HST.out.h1.keep BZ12)
                    have hown := HLK.out.own
                    have hbsz : bs ≤ Z12.heap.size := by have h1 := HLK.out.b.lt; have h2 := HLO.out.b.lt; rcases hbs2 with h3 | h3 <;> omega
                    have BI := below_all HBO.out BZ12
                    refine step_append_lies _ (by rfl) _ _ 27 (by rfl) bs 52 i0 _ 4 64 Tryz.underlying27 hi0 hz0 hz1 hz2 rfl (by decide) (.slice A2 k c2) k (lb.flatMap RVal.cells) (by simp [Act.eval]) hown ⟨g13, 0, none⟩ 1 1 [.bool (decide (r3.q.num < 0)), .slice r3.N (dg r3.q.num.natAbs).length r3.cn, .bool false, .slice r3.D (dg (dnz r3.q.den)).length r3.cd] (by simp [Act.eval]) rfl HNC.out (by simp [Value.oneCell']) (by omega) (by simp only [maxLen]; omega) (by omega) hbsz (g13 + 1) hsz ?_
                    intro gn cap Z13 hown' hgrow hg2 _
                    have HGR := Lib.hid (HLK.out.grown (r := r3) HOK3.out hb26 hgrow hown')
                    have hoo := HLO.out.own
                    have HFR : Hid (some gn ≠ (Value.slice A1 (k + 1) c1).ownBlock) := Lib.hid (far_step (w := Z12) (x := .slice A2 k c2) (y := .slice A1 (k + 1) c1) (g := gn) (H := g13 + 1) HFAR.out hoo hsz hg2)
                    clear hoo
                    have BZ13 : Below wI.heap.size wI Z13 := BI.grown hgrow BI.size (fun j hj => by have := (hown.lt j hj).1; omega)
                    have HOA := Lib.hid (fun (x : Value) => LH.apart (x := x) HLO.out hown hgrow HFAS.out hb26 hne56 HGR.out.1)
                    refine hK.out _ _ ⟨keep_cell BZ13 r0, keep_cell BZ13 r1, keep_cell BZ13 r2, keep_cell BZ13 r3c, keep_cell BZ13 h0, keep_cell BZ13 a0, keep_cell BZ13 a1, keep_cell BZ13 a2, keep_cell BZ13 a3⟩ (fun hHeld => ?_)
                    clear hK K hown hown' hgrow hg2 hbsz hsz BI HLK HLO
                    (try simp only [Act.put, List.setIfInBounds_toArray])
                    refine wpAnyH_get 11 (some 179) (.pointer (some ⟨g26, 2, none⟩)) rfl rfl (by kernel_rfl) (by kernel_rfl) (by kernel_rfl) (fun _ _ _ h => h) (by rfl) hHeld ?_ ?_
                    · (intro w hSw; (try dsimp only at hSw); go_simp; all_goals (try with_reducible rfl))
                    (try simp only [Act.put])
                    refine wpAnyH_ready (rs := [12]) (by kernel_rfl) (by simp) ?_
                    refine AllReadyH.cons rfl (fun K hK => ?_) AllReadyH.nil
                    obtain ⟨t0, t1, t2, f0, f1, f2⟩ := HGR.out.1.three
                    go_simp
                    have HN1 := Lib.hid (LH.next HGR.out.1 HGR.out.2 hb26 HST.out.h2.l HST.out.h2.q (by rw [HVAL.out, HQ3.out]))
                    have HN2 := Lib.hid (HOA.out (.slice (some ⟨gn, 0, none⟩) (k + 1) cap))
                    have hBx := below_far BZ13 hi26 2 (.slice (some ⟨gn, 0, none⟩) (k + 1) cap)
                    have HLS : Hid (LS wI bs g25 g26 v d (List.zipWith (· + ·) qa qb) (qa.map (r.q * ·)) (Z13.setCell ⟨g26, 2, none⟩ (.slice (some ⟨gn, 0, none⟩) (k + 1) cap)) (k + 1) (k + 1) A1 c1 la (some ⟨gn, 0, none⟩) cap (lb ++ [r3])) := Lib.hid ⟨HN2.out, HN1.out, .inr (by simpa [Value.ownBlock] using HFR.out.symm), hBx⟩
                    refine hK.out _ _ ⟨keep_cell hBx r0, keep_cell hBx r1, keep_cell hBx r2, keep_cell hBx r3c, keep_cell hBx h0, keep_cell hBx a0, keep_cell hBx a1, keep_cell hBx a2, keep_cell hBx a3⟩ (fun hHeld => ?_)
                    clear hK K t0 t1 t2 f0 f1 f2 HN1 HN2
                    (try simp only [Act.put, List.setIfInBounds_toArray, List.set_cons_zero, List.set_cons_succ])
                    refine wpAnyH_done (by kernel_rfl) ?_ _
                    have HXX := HLS
                    go_wp2
                    go_roundw
                    case rel => exact ⟨k + 1, _, _, _, _, _, _, by go_num, by omega, HXX⟩
                    case measure => simp [intOf]; omega
        · as_aux_lemma =>
            have hkl : k < n2 := by omega
            have e1 : decide ((k : Int) < (n2 : Int)) = true := decide_eq_true (by omega)
            have e1' : decide (k < n2) = true := decide_eq_true hkl
            have q1 : (0 : Int) ≤ (k : Int) := by omega
            have q2 : (k : Int) < (n2 : Int) := by omega
            have hkp : k < ps2.length := by rw [HN2.out]; exact hkl
            obtain ⟨ad, hAD, hcl, hQR⟩ := (HPA2b.out.keep HST.out.below).at hkp
            subst hAD
            obtain ⟨p, hp⟩ : ∃ p, ps2[k] = p := ⟨_, rfl⟩
            have hpm : p ∈ ps2 := by rw [← hp]; exact List.getElem_mem _
            have HPQ : Hid ((ptQ ps2).take (k + 1) = (ptQ ps2).take k ++ [p.rs.map RVal.q]) := Lib.hid (by
              have hk3 : (ptQ ps2)[k]? = some (p.rs.map RVal.q) := by rw [← hp]; simp [ptQ, hkp]
              rw [List.take_add_one, hk3]; rfl)
            have hpl : p.rs.length = v := by
              have := HOK2.out.dim (p.rs.map RVal.q) (List.mem_map.2 ⟨p, hpm, rfl⟩)
              simpa using this
            rw [hp] at hcl hQR
            rw [hpl] at hcl
            have HTX : Hid (Calls Tryz.prog 19 #[.slice p.A v p.c] wl2 fun e w' => ∃ g2, e = .returned (.slice (some ⟨g2, 0, none⟩) v v) ∧ Blk w' g2 9 ((p.rs.map RVal.q).map vq).toArray ∧ Below wl2.heap.size wl2 w') := Lib.hid (by
              have h1 := texts_b p.A p.c p.rs wl2 hQR (pt_shc HOK2.out p hpm) (by omega)
              unfold RetTB at h1
              rw [List.length_map, hpl] at h1
              exact h1.mono fun e w' ⟨g2, e1, h2, _, h3⟩ => ⟨g2, e1, h2, h3⟩)
            obtain ⟨j0, hj, jz0, jz1, jz2⟩ := info_parts trow_info
            have HPL : Hid ((p.rs.map RVal.q).length = v) := Lib.hid (by rw [List.length_map, hpl])
            clear hQR hpm hpl hp hkp hkn
            generalize p.rs.map RVal.q = x at *
            generalize p.A = pA at *
            generalize p.c = pc at *
            go_wp2_with (first
              | (go_at_call 19; refine HTX.out.mono ?_; rintro e w4 ⟨g2, rfl, hB4, hb4⟩; have HB4 := Lib.hid hB4; have HO4 := Lib.hid (HST.out.own.keep hb4); have HBW4 := Lib.hid (below_all HST.out.below hb4); have hown := HO4.out.own; rw [HST.out.len] at hown; clear hB4 hb4)
              | (at_builtin; refine wpList_append_own_at _ rfl _ _ 33 rfl wl1.heap.size 22 j0 _ 1 24 Tryz.underlying33 hj jz0 jz1 jz2 rfl (by decide) (.slice R2 k cc2) k _ rfl (hown.alloc _) ⟨w4.heap.size, 0, none⟩ 1 1 [.slice (some ⟨g2, 0, none⟩) v v] rfl rfl ?c1 ?c2 ?c3 ?c4 ?c5 ?_
                 case c1 => exact cell_one_new _ _ _
                 case c2 => simp [Value.oneCell']
                 case c3 => simp only [maxLen]; omega
                 case c4 => omega
                 case c5 => simp; have := HBW4.out.size; omega
                 intro v' w5 hown' hgrow _ hat))
            obtain ⟨A2, cs2, hv2, _, _⟩ := Sl.of_own hown'
            subst hv2
            have hal := Below.alloc (Below.refl w4.heap.size w4) (Nat.le_refl _) (.cells #[.slice (some ⟨g2, 0, none⟩) v v] 22)
            have HNX : Hid (TL wl1 w5 A2 cs2 (rows ++ [⟨g2, x⟩]) (ptQ ps2) (k + 1)) := Lib.hid (by
              have hOA := HO4.out.keep hal
              have hoA := hOA.own
              rw [HST.out.len] at hoA
              refine ⟨OwnTR.push hOA (HB4.out.alloc _) (by rw [HST.out.len]; exact hgrow) ?_, ?_, by rw [List.length_append, HST.out.len]; rfl, by rw [List.map_append, HST.out.q, HPQ.out]; rfl⟩
              · rw [HST.out.len]
                have e : TB.cell ⟨g2, x⟩ = .slice (some ⟨g2, 0, none⟩) v v := by unfold TB.cell; rw [HPL.out]
                rw [e]; exact hown'
              · exact Below.grown (below_all HBW4.out hal) hgrow (by have := (below_all HBW4.out hal).size; exact this) (fun j hj => by have := (hoA.lt j hj).1; omega))
            go_roundw
            case rel => exact ⟨k + 1, A2, cs2, _, rfl, by go_num, by omega, HNX⟩
            case measure => simp [intOf]; omega
    · as_aux_lemma =>
        have hkl : k < n1 := by omega
        have e1 : decide ((k : Int) < (n1 : Int)) = true := decide_eq_true (by omega)
        have e1' : decide (k < n1) = true := decide_eq_true hkl
        have q1 : (0 : Int) ≤ (k : Int) := by omega
        have q2 : (k : Int) < (n1 : Int) := by omega
        have hkp : k < ps1.length := by rw [HN1.out]; exact hkl
        obtain ⟨ad, hAD, hcl, hQR⟩ := (HPA1.out.keep HST.out.below).at hkp
        subst hAD
        obtain ⟨p, hp⟩ : ∃ p, ps1[k] = p := ⟨_, rfl⟩
        have hpm : p ∈ ps1 := by rw [← hp]; exact List.getElem_mem _
        have HPQ : Hid ((ptQ ps1).take (k + 1) = (ptQ ps1).take k ++ [p.rs.map RVal.q]) := Lib.hid (by
          have hk3 : (ptQ ps1)[k]? = some (p.rs.map RVal.q) := by rw [← hp]; simp [ptQ, hkp]
          rw [List.take_add_one, hk3]; rfl)
        have hpl : p.rs.length = v := by
          have := HOK1.out.dim (p.rs.map RVal.q) (List.mem_map.2 ⟨p, hpm, rfl⟩)
          simpa using this
        rw [hp] at hcl hQR
        rw [hpl] at hcl
        have HTX : Hid (Calls Tryz.prog 19 #[.slice p.A v p.c] wl1 fun e w' => ∃ g2, e = .returned (.slice (some ⟨g2, 0, none⟩) v v) ∧ Blk w' g2 9 ((p.rs.map RVal.q).map vq).toArray ∧ Below wl1.heap.size wl1 w') := Lib.hid (by
          have h1 := texts_b p.A p.c p.rs wl1 hQR (pt_shc HOK1.out p hpm) (by omega)
          unfold RetTB at h1
          rw [List.length_map, hpl] at h1
          exact h1.mono fun e w' ⟨g2, e1, h2, _, h3⟩ => ⟨g2, e1, h2, h3⟩)
        obtain ⟨j0, hj, jz0, jz1, jz2⟩ := info_parts trow_info
        have HPL : Hid ((p.rs.map RVal.q).length = v) := Lib.hid (by rw [List.length_map, hpl])
        clear hQR hpm hpl hp hkp hkn
        generalize p.rs.map RVal.q = x at *
        generalize p.A = pA at *
        generalize p.c = pc at *
        go_wp2_with (first
          | (go_at_call 19; refine HTX.out.mono ?_; rintro e w4 ⟨g2, rfl, hB4, hb4⟩; have HB4 := Lib.hid hB4; have HO4 := Lib.hid (HST.out.own.keep hb4); have HBW4 := Lib.hid (below_all HST.out.below hb4); have hown := HO4.out.own; rw [HST.out.len] at hown; clear hB4 hb4)
          | (at_builtin; refine wpList_append_own_at _ rfl _ _ 33 rfl wa.heap.size 22 j0 _ 1 24 Tryz.underlying33 hj jz0 jz1 jz2 rfl (by decide) (.slice R1 k cc1) k _ rfl (hown.alloc _) ⟨w4.heap.size, 0, none⟩ 1 1 [.slice (some ⟨g2, 0, none⟩) v v] rfl rfl ?c1 ?c2 ?c3 ?c4 ?c5 ?_
             case c1 => exact cell_one_new _ _ _
             case c2 => simp [Value.oneCell']
             case c3 => simp only [maxLen]; omega
             case c4 => omega
             case c5 => simp; have := HBW4.out.size; omega
             intro v' w5 hown' hgrow _ hat))
        obtain ⟨A2, cs2, hv2, _, _⟩ := Sl.of_own hown'
        subst hv2
        have hal := Below.alloc (Below.refl w4.heap.size w4) (Nat.le_refl _) (.cells #[.slice (some ⟨g2, 0, none⟩) v v] 22)
        have HNX : Hid (TL wa w5 A2 cs2 (rows ++ [⟨g2, x⟩]) (ptQ ps1) (k + 1)) := Lib.hid (by
          have hOA := HO4.out.keep hal
          have hoA := hOA.own
          rw [HST.out.len] at hoA
          refine ⟨OwnTR.push hOA (HB4.out.alloc _) (by rw [HST.out.len]; exact hgrow) ?_, ?_, by rw [List.length_append, HST.out.len]; rfl, by rw [List.map_append, HST.out.q, HPQ.out]; rfl⟩
          · rw [HST.out.len]
            have e : TB.cell ⟨g2, x⟩ = .slice (some ⟨g2, 0, none⟩) v v := by unfold TB.cell; rw [HPL.out]
            rw [e]; exact hown'
          · exact Below.grown (below_all HBW4.out hal) hgrow (by have := (below_all HBW4.out hal).size; exact this) (fun j hj => by have := (hoA.lt j hj).1; omega))
        go_roundw
        case rel => exact ⟨k + 1, A2, cs2, _, rfl, by go_num, by omega, HNX⟩
        case measure => simp [intOf]; omega
end Go.Proofs.Tg
end
