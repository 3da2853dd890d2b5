/- Parts of the proof: BN31, BN32, BN34, BN33. -/
import Derived.Deep.Cut
import Derived.Test.YtbgaiceakmmfdaaGreatDoorMMR0
import Derived.Test.YtbgaiceakmmfdaaGreatDoorMMR1
import Derived.Test.YtbgaiceakmmfdaaGreatDoorMMR3
import Derived.Test.YtbgaiceakmmfdaaGreatDoorMMR6
set_option maxHeartbeats 64000000
set_option maxRecDepth 100000
namespace Go.Proofs.Tg
section
open Go.RowKit Go.Gr Go.Bn
theorem bits_w (b : Bool) (A : Option Addr) (c v : Nat) (w : World) (hA : Digs w A (dg v)) (hv : v ≠ 0) (hn : (dg v).length ≤ 400000) :
    ∃ q, (1 < q ↔ 1 < v) ∧ (q = 1 ↔ v = 1) ∧ q ≤ 5000000000 ∧ Calls Tryz.prog 61 #[.agg #[.bool b, .slice A (dg v).length c]] w fun e w' => e = .returned (.int .i64 (q : Nat)) ∧ Below w.heap.size w w' := by
  by_cases hB : v < 4294967296
  ·have hd := dg_small hv hB; have hb := blen_le v v (Nat.le_refl _); refine ⟨blen v, blen_gt, blen_one, by omega, ?_⟩; rw [hd] at hA ⊢; exact bits_one b A c v w hA hB
  ·obtain ⟨lo, t, e1, e2, e3⟩ := top_digit hv; obtain ⟨n1, hn1⟩ := eqx (lo.length)
   have hl : (dg v).length = n1 + 1 := by rw [e1]; simp [hn1]
   have hn10 : n1 ≠ 0 := fun h => hB (by
    have := val_lt (dg_dig v); rw [val_dg, hl, h] at this
    simpa [B] using this)
   obtain ⟨ad, rfl, ha0⟩ := Digs.at hA (k := n1) (by omega)
   have ha : w.cell? (ad.add n1) = some (.int .u32 (t : Nat)) := by
    rw [ha0]
    congr 3
    simp only [e1]; rw [List.getElem_append_right (by omega)]; simp
   have hbA : Below w.heap.size w (w.alloc (.cells #[.bool b, .slice (some ad) (n1 + 1) c] 52)) := bal; have hlt : (ad.add n1).block < w.heap.size := World.block_lt_of_cell? w _ ha; have htB : t < 4294967296 := e3; have hle := blen_le t t (Nat.le_refl _)
   have ht1 : 1 ≤ blen t := by rw [blen_pos e2]; omega
   obtain ⟨q, hq⟩ := eqx (32 * n1 + blen t)
   have hqq : q ≤ 5000000000 := by omega
   refine ⟨q, by constructor <;> intro _ <;> omega, by constructor <;> intro _ <;> omega, hqq, ?_⟩; rw [hl]; have HQ := zh hq
   have hn1' : n1 ≤ 400000 := by omega
   clear ha0 hA hq e1 e2 e3 hl hn hn1 hle ht1; have m1 : IntKind.i64.wrap (((n1 + 1 : Nat) : Int) - 1) = (n1 : Int) := (IntWalk.i64_in _ (by omega)).trans (by omega)
   have m2 : ((n1 + 1 : Nat) : Int) - 1 = (n1 : Int) := by omega
   have m3 : (n1 : Int) + 1 - 1 = (n1 : Int) := by omega
   have m4 : IntKind.i64.wrap (n1 : Int) = (n1 : Int) := IntWalk.i64_in _ (by omega); obtain ⟨k0, hk0⟩ := eqx (32 * n1)
   have m5 : (32 : Int) * (n1 : Int) = (k0 : Int) := by omega
   have m6 : IntKind.i64.wrap (k0 : Int) = (k0 : Int) := IntWalk.i64_in _ (by omega); have HK0 : Hid (k0 + blen t = q) := zh (by rw [← hk0]; exact HQ.out)
   have hkq : k0 ≤ q := by have := HK0.out; omega
   clear HQ hk0; go_enter Tryz.func61, Tryz.ntmps61; go_wp2
   go_loop [3, 4] (fun s3 s4 => ∃ k x : Nat, s3 = .int .i64 k ∧ s4 = .int .u32 x ∧ x < 4294967296 ∧ k ≤ q ∧ Hid (k + blen x = q)) (fun _ s4 => (intOf s4).toNat)
   case atStart => exact ⟨k0, t, rfl, rfl, htB, hkq, HK0⟩
   case round =>
    obtain ⟨k, x, rfl, rfl, hx, hk, HK⟩ := hrel
    by_cases h0 : x = 0
    ·subst h0
     obtain rfl : k = q := by have := HK.out; rw [blen_zero] at this; omega
     go_wp2; go_ret; exact ⟨rfl, hbA⟩
    ·have hd : decide ((0 : Int) < (x : Int)) = true := by simp; omega
     have hd' : decide (0 < x) = true := by simp; omega
     have HK2 : Hid (k + 1 + blen (x / 2) = q) := zh (by have := HK.out; rw [blen_pos h0] at this; omega)
     have hk1 : k + 1 ≤ q := by have := HK2.out; omega
     have hx2 : (x : Int).fdiv (2 ^ min (Int.toNat 1) IntKind.u32.bits) = ((x / 2 : Nat) : Int) := by
      have e : (2 : Int) ^ min (Int.toNat 1) IntKind.u32.bits = 2 := by decide
      rw [e, Int.fdiv_eq_ediv_of_nonneg _ (by omega)]; simp
     go_wp2; go_round
     case rel => exact ⟨k + 1, x / 2, by go_num, by simp, by omega, hk1, HK2⟩
     case measure => simp [intOf]; omega
theorem frac_w (p : Bool) (A B : Option Addr) (c d a b : Nat) (w : World) (hA : ND w A c a) (hB : ND w B d b) (ha : (dg a).length ≤ 200000) (hd : DvOk b) (hb0 : b ≠ 0) (hp : p = true → a ≠ 0) :
    Calls Tryz.prog 34 #[.agg #[.bool p, .slice A (dg a).length c], .agg #[.bool false, .slice B (dg b).length d]] w (RetFr p (a / Nat.gcd a b) (b / Nat.gcd a b) w) := by
  have hbl1 : (dg b).length ≤ 200000 := hd; have HG : Hid (∀ W, Below w.heap.size w W → Calls Tryz.prog 60 #[.agg #[.bool p, .slice A (dg a).length c], .agg #[.bool false, .slice B (dg b).length d]] W (RetGc (Nat.gcd a b) W)) := zh (fun W h => gcd_num p false A B c d a b W (hA.keep h) (hB.keep h) ha hd hbl1); have hg0 : Nat.gcd a b ≠ 0 := Nat.pos_iff_ne_zero.1 (Nat.gcd_pos_of_pos_right _ (by omega)); have hgl : Nat.gcd a b ≤ b := Nat.gcd_le_right _ (by omega); have hm0 : b / Nat.gcd a b ≠ 0 := Nat.pos_iff_ne_zero.1 (Nat.div_pos hgl (by omega)); have hml : b / Nat.gcd a b ≤ b := Nat.div_le_self _ _; have HSG : Hid (p = true → a / Nat.gcd a b ≠ 0) := zh (fun h => Nat.pos_iff_ne_zero.1 (Nat.div_pos (Nat.gcd_le_left _ (Nat.pos_of_ne_zero (hp h))) (by omega))); generalize Nat.gcd a b = g at *; have hdg : DvOk g := hd.mono hgl; have HDG := zh hdg; have HDM := zh (hd.mono hml)
  obtain ⟨ng, hng⟩ := eqx ((dg g).length); obtain ⟨nb, hnb⟩ := eqx ((dg b).length)
  have hnbl : nb ≤ 200000 := by rw [← hnb]; exact hbl1
  have hngl : ng ≤ 200000 := by rw [← hng]; exact hdg
  clear hbl1; obtain ⟨na, hna⟩ := eqx ((dg a).length); rw [hna, hnb] at HG; rw [hna, hnb]; unfold RetGc at HG; rw [hng] at HG; have HNA := zh hna
  have hal : na ≤ 200000 := by omega
  have HNB1 := zh hnb; have HNG1 := zh hng; clear hna hnb hng; obtain ⟨W, hW⟩ := eqx (((w.alloc (.cells #[.bool p, .slice A na c] 52)).alloc (.cells #[.bool false, .slice B nb d] 52)).alloc (.cells #[.bool false, .slice none 0 0, .bool false, .slice none 0 0] 54))
  have B0 : Blk W w.heap.size 52 #[.bool p, .slice A na c] := by rw [← hW]; exact ((Blk.new _ _ _).alloc _).alloc _
  have B1 : Blk W (w.heap.size + 1) 52 #[.bool false, .slice B nb d] := by
   rw [← hW]; have := (Blk.new (w.alloc (.cells #[.bool p, .slice A na c] 52)) 52 #[.bool false, .slice B nb d]).alloc (.cells #[.bool false, .slice none 0 0, .bool false, .slice none 0 0] 54); simpa using this
  have B2 : Blk W (w.heap.size + 1 + 1) 54 #[.bool false, .slice none 0 0, .bool false, .slice none 0 0] := by
   rw [← hW]; have := (Blk.new ((w.alloc (.cells #[.bool p, .slice A na c] 52)).alloc (.cells #[.bool false, .slice B nb d] 52)) 54 #[.bool false, .slice none 0 0, .bool false, .slice none 0 0]); simpa using this
  have hbW : Below w.heap.size w W := by rw [← hW]; exact ((bal).alloc (by simp) _).alloc (by simp; omega) _
  have hWs : W.heap.size = w.heap.size + 3 := by rw [← hW]; simp
  obtain ⟨a0, a1, _, _⟩ := B0.two; obtain ⟨b0, b1, _, _⟩ := B1.two; go_enter Tryz.func34, Tryz.ntmps34; go_upto_region 1 with (fail); clear hW
  go_upto_region 4 with (go_at_call 60; refine (HG.out _ hbW).mono ?_; rintro e w2 ⟨G, cg, rfl, hG, hb2⟩)
  obtain ⟨V, hV⟩ := eqx (w2.alloc (.cells #[.bool false, .slice G ng cg] 52))
  try rw [hV]
  have hbV : Below w2.heap.size w2 V := by rw [← hV]; exact bal
  have C5 : Blk V w2.heap.size 52 #[.bool false, .slice G ng cg] := by rw [← hV]; exact Blk.new _ _ _
  have C0 := (B0.keep hb2 B0.lt).keep hbV (B0.keep hb2 B0.lt).lt; have C1 := (B1.keep hb2 B1.lt).keep hbV (B1.keep hb2 B1.lt).lt; have C2 := (B2.keep hb2 B2.lt).keep hbV (B2.keep hb2 B2.lt).lt; have hbwV := below_all (below_all hbW hb2) hbV; have hGV := hG.keep hbV; have hs2 : W.heap.size ≤ w2.heap.size := hb2.size; clear hb2 hG hbV hV a0 a1 b0 b1 B0 B1 B2 HG; obtain ⟨g0, g1, _, _⟩ := C5.two; obtain ⟨bg, hbg1, _, hbl, hBB⟩ := bits_w false G cg g V hGV.digs hg0 (by rw [HNG1.out]; omega); rw [HNG1.out] at hBB; have HB := zh hBB; have HBG := zh hbg1; clear hBB hbg1
  go_upto_if 17 with (go_at_call 61; refine HB.out.mono ?_; rintro e w3 ⟨rfl, hb3⟩)
  have D0 := C0.keep hb3 C0.lt; have D1 := C1.keep hb3 C1.lt; have D2 := C2.keep hb3 C2.lt; have D5 := C5.keep hb3 C5.lt; have hb3' := below_all hbwV hb3; have hG3 := hGV.keep hb3; have HSN : Hid (∀ W N cn D cd, FqSt w p (a / g) (b / g) N cn D cd W → FqSt w p (a / g) (b / g) N cn D cd W) := zh (fun _ _ _ _ _ h => h)
  go_cut [] from 17 (fun wx => ∃ N cn D cd, FqSt w p (a / g) (b / g) N cn D cd wx)
  case first =>
   by_cases h1 : g = 1
   ·have hbb : decide ((1 : Int) < (bg : Int)) = false := by
     have := HBG.out; simp; omega
    have hbb' : decide (1 < bg) = false := by
     have := HBG.out; simp; omega
    have HF : Hid (FqSt w p (a / g) (b / g) A c B d w3) := zh (by
     rw [h1, Nat.div_one, Nat.div_one]
     exact ⟨hb3', by rw [HNA.out]; exact D0, by rw [HNB1.out]; exact D1, D2, hA.keep hb3', hB.keep hb3'⟩)
    go_wp2; go_meet; exact ⟨A, c, B, d, HF.out⟩
   ·have hbb : decide ((1 : Int) < (bg : Int)) = true := by
     have := HBG.out; simp; omega
    have hbb' : decide (1 < bg) = true := by
     have := HBG.out; simp; omega
    have hbi : (1 : Int) < (bg : Int) := by
     have := HBG.out; omega
    have HQ1 : Hid (∀ W, Below w3.heap.size w3 W → Calls Tryz.prog 62 #[.agg #[.bool p, .slice A na c], .agg #[.bool false, .slice G ng cg]] W (RetQn p false a g W)) := zh (fun W h => by
     have := quorem_num p false A G c cg a g W ((hA.keep hb3').keep h) (hG3.keep h) ha hg0 hdg; rw [HNA.out, HNG1.out] at this
     exact this)
    have HQ2 : Hid (∀ W, ND W B d b → ND W G cg g → Calls Tryz.prog 62 #[.agg #[.bool false, .slice B nb d], .agg #[.bool false, .slice G ng cg]] W (RetQn false false b g W)) := zh (fun W h h' => by
     have := quorem_num false false B G d cg b g W h h' (by rw [HNB1.out]; omega) hg0 hdg; rw [HNB1.out, HNG1.out] at this
     exact this)
    have hsg : ((p != false) && decide (a / g ≠ 0)) = p := by
     have := HSG.out
     cases p with
     | false => rfl
     | true => simp [this rfl]
    have hsg2 : ((false != false) && decide (b / g ≠ 0)) = false := rfl; unfold RetQn at HQ1 HQ2; rw [hsg] at HQ1; rw [hsg2] at HQ2; clear hsg hsg2; generalize a / g = qn at *; generalize b / g = qm at *; obtain ⟨d0, d1, d2, d3⟩ := D0.two; obtain ⟨f0, f1, _, _⟩ := D5.two; go_wp2_with (fail); refine (HQ1.out _ brf).mono ?_; rintro e w4 ⟨N, cn, _, _, rfl, hN, _, hb4⟩; clear d0 d1 d2 d3 f0 f1; have E0 := D0.keep hb4 D0.lt; have E1 := D1.keep hb4 D1.lt; have E2 := D2.keep hb4 D2.lt; have E5 := D5.keep hb4 D5.lt; have E5lt := D5.lt; obtain ⟨d0, d1, d2, d3⟩ := E0.two; have hB4 : ND w4 B d b := (hB.keep hb3').keep hb4; have hG4 := hG3.keep hb4; obtain ⟨V5, hV5⟩ := eqx ((w4.setCell ⟨w.heap.size, 0, none⟩ (.bool p)).setCell ⟨w.heap.size, 1, none⟩ (.slice N (dg qn).length cn))
    have F0 : Blk V5 w.heap.size 52 #[.bool p, .slice N (dg qn).length cn] := by rw [← hV5]; exact (E0.set 0 _).set 1 _
    have F1 : Blk V5 (w.heap.size + 1) 52 #[.bool false, .slice B nb d] := by rw [← hV5]; exact (E1.far (by simp) _).far (by simp) _
    have F2 : Blk V5 (w.heap.size + 1 + 1) 54 #[.bool false, .slice none 0 0, .bool false, .slice none 0 0] := by rw [← hV5]; exact (E2.far (by simp; omega) _).far (by simp; omega) _
    have F5 : Blk V5 w2.heap.size 52 #[.bool false, .slice G ng cg] := by rw [← hV5]; exact (E5.far (by simp; omega) _).far (by simp; omega) _
    have hN5 : ND V5 N cn qn := by rw [← hV5]; exact (hN.far E0 (by decide) _ _).far (E0.set _ _) (by decide) _ _
    have hB5 : ND V5 B d b := by rw [← hV5]; exact (hB4.far E0 (by decide) _ _).far (E0.set _ _) (by decide) _ _
    have hG5 : ND V5 G cg g := by rw [← hV5]; exact (hG4.far E0 (by decide) _ _).far (E0.set _ _) (by decide) _ _
    have hb5 : Below w.heap.size w V5 := by rw [← hV5]; exact below_far (below_far (below_all hb3' hb4) (Nat.le_refl _) _ _) (Nat.le_refl _) _ _
    clear E0 E1 E2 E5 hN hB4 hG4 hb4; obtain ⟨e0, e1, e2, e3⟩ := F1.two; obtain ⟨f0, f1, _, _⟩ := F5.two; go_upto_region 6 with (fail)
    try rw [hV5]
    clear hV5 d0 d1 d2 d3; go_wp2_with (fail); refine (HQ2.out _ hB5 hG5).mono ?_; rintro e w6 ⟨D, cd, _, _, rfl, hD, _, hb6⟩; have G1 := F1.keep hb6 F1.lt; clear e0 e1 e2 e3 f0 f1; obtain ⟨e0, e1, e2, e3⟩ := G1.two; go_wp2; go_meet; refine ⟨N, cn, D, cd, ?_, ?_, ?_, ?_, ?_, ?_⟩
    ·exact below_far (below_far (below_all hb5 hb6) (by omega) _ _) (by omega) _ _
    ·exact ((F0.keep hb6 F0.lt).far (by simp) _).far (by simp) _
    ·exact (G1.set 0 _).set 1 _
    ·exact ((F2.keep hb6 F2.lt).far (by simp) _).far (by simp) _
    ·exact ((hN5.keep hb6).far G1 (by decide) _ _).far (G1.set _ _) (by decide) _ _
    ·exact (hD.far G1 (by decide) _ _).far (G1.set _ _) (by decide) _ _
    all_goals (exfalso; omega)
  case rest =>
   obtain ⟨N, cn, D, cd, hst⟩ := hcut; obtain ⟨hbx, X0, X1, X2, dn, dd⟩ := hst; clear C0 C1 C2 C5 D0 D1 D2 D5 g0 g1; generalize a / g = qn at *; have HFIN := zh dn; have HFID := zh dd; generalize b / g = qm at *; obtain ⟨nm, hml1⟩ := eqx ((dg qm).length)
   have hnml : nm ≤ 200000 := by rw [← hml1]; exact HDM.out
   obtain ⟨bm, _, hbm1, hbl2, hBB⟩ := bits_w false D cd qm wc dd.digs hm0 (by rw [hml1]; omega); rw [hml1] at X1 hBB; have HML1 := zh hml1; have HB2 := zh hBB; have HB1 := zh hbm1; clear hml1 hBB hbm1; obtain ⟨nn, hnn⟩ := eqx ((dg qn).length); rw [hnn] at X0; have HNN := zh hnn; clear hnn; obtain ⟨x0, x1, _, _⟩ := X0.two; obtain ⟨y0, y1, y2, y3⟩ := X1.two
   by_cases hm1 : qm = 1
   ·have hbb : ((bm : Int) == 1) = true := by
     have := HB1.out.2 hm1; simp [this]
    have hbb' : (bm == 1) = true := by
     have := HB1.out.2 hm1; simp [this]
    have HDL : Hid (dnz qm = 0) := zh (if_pos hm1); clear hm1
    go_wp2_with (go_at_call 61; refine HB2.out.mono ?_; rintro e w7 ⟨rfl, hb7⟩
                 have Y0 := X0.keep hb7 X0.lt; have Y1 := X1.keep hb7 X1.lt; have Y2 := X2.keep hb7 X2.lt; obtain ⟨x0, x1, x2, x3⟩ := Y0.two; obtain ⟨y0, y1, y2, y3⟩ := Y1.two
                 obtain ⟨z0, z1, z2, z3, v0, v1, v2, v3⟩ := Y2.four)
    have hn7 := HFIN.out.keep hb7
    have Y2' := fun u u' => (Y2.far (p := ⟨w.heap.size + 1, 0, none⟩) (by simp) u).far (p := ⟨w.heap.size + 1, 1, none⟩) (by simp) u'
    refine bodyPost_ret (v := .agg #[.bool p, .slice N nn cn, .bool false, .slice none 0 0]) (by simp [results, Tryz.results34, go_sem, z0, z1, z2, z3]) rfl ⟨N, cn, none, 0, by rw [HNN.out, HDL.out, dg_zero]; rfl, ?_, by rw [HDL.out]; exact ND.zero _, ?_⟩
    ·exact ((((hn7.far Y1 (by decide) _ _).far (Y1.set _ _) (by decide) _ _).far (Y2' _ _) (by decide) _ _).far ((Y2' _ _).set _ _) (by decide) _ _ |>.far (((Y2' _ _).set _ _).set _ _) (by decide) _ _).far ((((Y2' _ _).set _ _).set _ _).set _ _) (by decide) _ _
    ·exact below_far (below_far (below_far (below_far (below_far (below_far (below_all hbx hb7) (by omega) _ _) (by omega) _ _) (by omega) _ _) (by omega) _ _) (by omega) _ _) (by omega) _ _
   ·have hbb : ((bm : Int) == 1) = false := by
     have := HB1.out; simp; omega
    have hbb' : (bm == 1) = false := by
     have := HB1.out; simp; omega
    have HDL : Hid (dnz qm = qm) := zh (if_neg hm1); have HM0 := zh hm0; clear hm1
    go_wp2_with (go_at_call 61; refine HB2.out.mono ?_; rintro e w7 ⟨rfl, hb7⟩
                 have Y0 := X0.keep hb7 X0.lt; have Y1 := X1.keep hb7 X1.lt; have Y2 := X2.keep hb7 X2.lt; obtain ⟨x0, x1, x2, x3⟩ := Y0.two; obtain ⟨y0, y1, y2, y3⟩ := Y1.two
                 obtain ⟨z0, z1, z2, z3, v0, v1, v2, v3⟩ := Y2.four)
    have hn7 := HFIN.out.keep hb7; have hd7 := HFID.out.keep hb7; refine bodyPost_ret (v := .agg #[.bool p, .slice N nn cn, .bool false, .slice D nm cd]) (by simp [results, Tryz.results34, go_sem, z0, z1, z2, z3]) rfl ⟨N, cn, D, cd, by rw [HNN.out, HDL.out, HML1.out], ?_, ?_, ?_⟩
    ·exact (((hn7.far Y2 (by decide) _ _).far (Y2.set _ _) (by decide) _ _).far ((Y2.set _ _).set _ _) (by decide) _ _).far (((Y2.set _ _).set _ _).set _ _) (by decide) _ _
    ·rw [HDL.out]; exact (((hd7.far Y2 (by decide) _ _).far (Y2.set _ _) (by decide) _ _).far ((Y2.set _ _).set _ _) (by decide) _ _).far (((Y2.set _ _).set _ _).set _ _) (by decide) _ _
    ·exact below_far (below_far (below_far (below_far (below_all hbx hb7) (by omega) _ _) (by omega) _ _) (by omega) _ _) (by omega) _ _
def RetSQN (n d : Nat) (w : World) (e : Ending) (w' : World) : Prop := ∃ cr, e = .returned (.tuple #[.slice (some ⟨w.heap.size, 0, none⟩) (dg (n / d)).length cr, .int .u32 ((n % d : Nat))]) ∧ ND w' (some ⟨w.heap.size, 0, none⟩) cr (n / d) ∧ Below w.heap.size w w'
theorem sdivloop_n (X : Option Addr) (cx : Nat) (us : List Nat) (d : Nat) (w : World) (hX : Digs w X us) (hu : Dig us) (hd : d < B) (hd0 : 0 < d) (hn : us.length ≤ 400000) :
    Calls Tryz.prog 81 #[.slice X us.length cx, .int .u32 (d : Nat)] w (RetSQN (val us) d w) := by
  have HU := zh hu; have HX := zh hX; have hdB : d < 4294967296 := hd
  have hmk := fun W => make_digs us.length (by omega) W
  clear hu hX hd; go_enter Tryz.func81, Tryz.ntmps81; go_upto_region 2 with (fail); obtain ⟨W, hW⟩ := eqx (w.alloc (.cells (madeCells #[.int .u32 0] us.length) 103))
  have G5 : Blk W w.heap.size 103 (darr (List.replicate us.length 0 ++ [])) := by
   rw [← hW, List.append_nil, ← darr_made]; exact Blk.new _ _ _
  have hbW : Below w.heap.size w W := by rw [← hW]; exact bal
  rw [hW]; clear hW hmk; go_wp2
  go_loopw [7, 8] (fun s7 s8 wr => ∃ (k r : Nat) (zs : List Nat), s7 = .int .u64 r ∧ s8 = .int .i64 ((k : Int) - 1) ∧ k ≤ us.length ∧ Hid (DivSt us d w.heap.size w wr k r zs)) (fun _ s8 _ => (intOf s8 + 1).toNat)
  case atStart => exact ⟨us.length, 0, [], rfl, rfl, Nat.le_refl _, zh (DivSt.mk (by simp) (fun x hx => absurd hx (by simp)) hd0 (by simp [val]) G5 hbW)⟩
  case round =>
   clear G5 hbW; obtain ⟨wo, rfl⟩ : ∃ wo : World, wo = wr := ⟨_, rfl⟩; obtain ⟨k, r, zs, rfl, rfl, hk, HST⟩ := hrel; have hrl := HST.out.lt
   cases k with
   | succ k =>
     have hku : k < us.length := hk; obtain ⟨ad, rfl, hcx⟩ := Digs.at (HX.out.keep HST.out.below) hku; have hxB : us[k] < 4294967296 := HU.out us[k] (List.getElem_mem _); have HTX := zh (val_drop hku); generalize us[k] = x at *
     have hkk : ((k + 1 : Nat) : Int) - 1 = (k : Int) := by omega
     rw [hkk]
     have q0 : (0 : Int) ≤ (k : Int) := by omega
     have q0' : decide ((0 : Int) ≤ (k : Int)) = true := dT q0
     have q1 : (k : Int) < (us.length : Int) := by omega
     have q3 : ((k : Int)).toNat = k := by omega
     have w1 : IntKind.u64.wrap ((r : Int) * 4294967296) = ((r * B : Nat) : Int) := by have := wrap_nat (r * B) (by simp only [B]; omega); simpa [B] using this
     have w2 := u64_or_nat (r * B) x (by simp only [B]; omega) (by omega); rw [or_low hxB] at w2; have c0 := HST.out.blk.cell k; have f0 := HST.out.blk.frozen k
     have hzl : (List.replicate (k + 1) 0 ++ zs).length = us.length := by rw [List.length_append, List.length_replicate, HST.out.len]; omega
     rw [darr_at _ (by rw [hzl]; omega)] at c0; generalize (List.replicate (k + 1) 0 ++ zs)[k]'(by rw [hzl]; omega) = old at c0; go_wp2; go_roundw
     case rel =>
      have hs := HST.out.step hku (Nat.le_refl _) hxB HTX.out; have hq := div_dig hrl hxB
      have w3 : bits BinOp.or IntKind.u64 ((r : Int) * 4294967296) (x : Int) = ((r * B + x : Nat) : Int) := by rw [← w2]; congr 1
      have w4 : (((r * B + x : Nat) : Int)).tmod (d : Int) = (((r * B + x) % d : Nat) : Int) := rfl; have w5 : (((r * B + x : Nat) : Int)).tdiv (d : Int) = (((r * B + x) / d : Nat) : Int) := rfl; rw [w3, w4, w5]; generalize (r * B + x) / d = q at hs hq ⊢; generalize (r * B + x) % d = r' at hs ⊢; simp only [B] at hq; rw [wrap_nat q (by omega), Int.emod_eq_of_lt (by omega) (by omega)]; exact ⟨k, r', _, rfl, rfl, by omega, zh hs⟩
     case measure => simp [intOf]
   | zero =>
     have hb1 := HST.out.blk; rw [List.replicate_zero, List.nil_append] at hb1; have hlen := HST.out.len; rw [Nat.sub_zero] at hlen; have hsum := HST.out.sum; rw [List.drop_zero] at hsum; have hdig := HST.out.dig
     have hvz : val zs = val us / d := by
      rw [← hsum, Nat.mul_comm, Nat.mul_add_div hd0, Nat.div_eq_of_lt hrl, Nat.add_zero]
     have hvr : r = val us % d := by
      rw [← hsum, Nat.mul_comm, Nat.mul_add_mod, Nat.mod_eq_of_lt hrl]
     have HT := zh (trim_dg (some ⟨w.heap.size, 0, none⟩) us.length zs _ (digs_of hb1) hdig (by omega) (by omega)); have hdl := dg_val_len hdig; rw [hlen, hvz] at HT; rw [hlen, hvz] at hdl
     have hrB : (r : Int) % 4294967296 = (r : Int) := by omega
     have hz : ((0 : Nat) : Int) - 1 = -1 := rfl; rw [hz]; clear hsum hb1 hdig hlen hvz
     go_wp2_with (go_at_call 58; refine HT.out.mono ?_; rintro e w' ⟨rfl, rfl, hD⟩)
     go_ret2
     exact ⟨_, rfl, ND.some hD hdl, HST.out.below⟩
theorem sdiv_new (X : Option Addr) (cx a d : Nat) (w : World) (hX : Digs w X (dg a)) (hd : d < B) (hd0 : 0 < d) (hn : (dg a).length ≤ 400000) :
    Calls Tryz.prog 81 #[.slice X (dg a).length cx, .int .u32 (d : Nat)] w (RetSQN a d w) := by
  have := sdivloop_n X cx (dg a) d w hX (dg_dig a) hd hd0 hn
  rwa [val_dg] at this
end
end Go.Proofs.Tg
namespace Go.Proofs.Tg
section
open Go.RowKit Go.Gr Go.Bn Go.Qn
theorem part_digit {v i j p : Nat} (hp : p = v / 10 ^ (9 * i) % 10 ^ 9) (hj : j < 9) : v / 10 ^ (9 * i + j) % 10 = p / 10 ^ j % 10 := by
 have e1 : v / 10 ^ (9 * i + j) = v / 10 ^ (9 * i) / 10 ^ j := by rw [Nat.pow_add, Nat.div_div_eq_div_mul]
 have e2 : (10 : Nat) ^ 9 = 10 ^ j * 10 ^ (9 - j) := by rw [← Nat.pow_add]; congr 1; omega
 rw [e1, hp, e2, Nat.mod_mul_right_div_self]
 refine (Nat.mod_mod_of_dvd _ ?_).symm
 obtain ⟨m, hm⟩ : ∃ m, 9 - j = m + 1 := ⟨8 - j, by omega⟩
 rw [hm, Nat.pow_succ]
 exact ⟨10 ^ m, Nat.mul_comm _ _⟩
theorem parts_bound {v k : Nat} (h : v / 10 ^ (9 * k) ≠ 0) (hn : (dg v).length ≤ 40000) : k ≤ 50000 := by
 have hp : 0 < 10 ^ (9 * k) := Nat.pow_pos (by decide)
 have h1 : 10 ^ (9 * k) ≤ v := by
  rcases Nat.lt_or_ge v (10 ^ (9 * k)) with h2 | h2
  ·exact absurd (Nat.div_eq_of_lt h2) h
  ·exact h2
 have h2 := val_lt (dg_dig v)
 rw [val_dg] at h2
 have h3 : B ^ (dg v).length ≤ (10 ^ 10) ^ (dg v).length := Nat.pow_le_pow_left (by decide) _
 rw [← Nat.pow_mul] at h3
 have h4 : 9 * k < 10 * (dg v).length := (Nat.pow_lt_pow_iff_right (by decide : 1 < 10)).1 (Nat.lt_of_le_of_lt h1 (Nat.lt_of_lt_of_le h2 h3))
 omega
theorem nd_grown {w w' : World} {g c n : Nat} {r : Option Nat} (h : ND w (some ⟨g, 0, none⟩) c n) (hg : w.grownBy w' r) (hne : some g ≠ r) : ND w' (some ⟨g, 0, none⟩) c n := by
 refine ⟨⟨⟨h.digs.sl.len, fun hn => ?_⟩, fun hp ad e => ?_⟩, h.cap, h.nilc⟩
 ·obtain ⟨ad, e, hl, ha⟩ := h.digs.sl.lies hn
  injection e with e
  subst e; refine ⟨_, rfl, Nat.lt_of_lt_of_le hl hg.size, fun j x hx => ?_⟩
  have hcf : w'.cell? ((⟨g, 0, none⟩ : Addr).add j) = w.cell? ((⟨g, 0, none⟩ : Addr).add j) := World.cell?_of_block (by
   have hb : ((⟨g, 0, none⟩ : Addr).add j).block = g := by unfold Addr.add; split <;> rfl
   rw [hb]; exact hg.block g hl hne)
  rw [hcf]; exact ha j x hx
 ·obtain ⟨cs, fz, hc⟩ := h.digs.u32 hp ad e
  injection e with e
  subst e; exact ⟨cs, fz, (hg.block g (Array.getElem?_eq_some_iff.1 hc).1 hne).trans hc⟩
structure DgP (base : Nat) (w wr : World) (v : Nat) (P : Option Addr) (cp k : Nat) (ps : List Nat) : Prop where
  own : wr.ownsRow base 103 1 (.slice P k cp) k (ps.map vd)
  len : ps.length = k
  dig : ∀ i (h : i < ps.length), ps[i] = v / 10 ^ (9 * i) % 10 ^ 9
  below : Below base w wr
theorem digits_w (b : Bool) (A : Option Addr) (c v : Nat) (w : World) (hA : ND w A c v) (hv0 : v ≠ 0) (hn : (dg v).length ≤ 40000) :
    Calls Tryz.prog 63 #[.agg #[.bool b, .slice A (dg v).length c]] w fun e w' => e = .returned (.string (bs (Lib.decDigits v))) ∧ Below w.heap.size w w' := by
  obtain ⟨la, hla⟩ := eqx ((dg v).length)
  have hla0 : 0 < la := by rw [← hla]; exact dg_len_pos.2 hv0
  rw [hla]; rw [hla] at hn; have HLA := zh hla; have HV0 := zh hv0; have HDV : Hid (ddg v = Lib.decDigits v) := zh (by unfold ddg; rw [if_neg hv0]); have hbA : Below w.heap.size w (w.alloc (.cells #[.bool b, .slice A la c] 52)) := bal; have HA1 : Hid (ND (w.alloc (.cells #[.bool b, .slice A la c] 52)) A c v) := zh (hA.keep hbA)
  have HS : Hid (∀ (M : Option Addr) (cm m lm : Nat) (W : World), ND W M cm m → (dg m).length = lm → lm ≤ 40000 → Calls Tryz.prog 81 #[.slice M lm cm, .int .u32 1000000000] W fun e w' => ∃ cr, e = .returned (.tuple #[.slice (some ⟨W.heap.size, 0, none⟩) (dg (m / 10 ^ 9)).length cr, .int .u32 ((m % 10 ^ 9 : Nat))]) ∧ ND w' (some ⟨W.heap.size, 0, none⟩) cr (m / 10 ^ 9) ∧ Below W.heap.size W w') := zh (fun M cm m lm W hM hl hle => by
   have := sdiv_new M cm m 1000000000 W hM.digs (by decide) (by omega) (by omega); rw [hl] at this
   exact this)
  obtain ⟨i0, hi, hz0, hz1, hz2⟩ := info_parts dig_info; obtain ⟨ib, hib, hbz0, hbz1, hbz2⟩ := info_parts byte_info; have hlb : ((la : Int) == 0) = false := beq_eq_false_iff_ne.2 (by omega); clear hA hv0 hla; go_enter Tryz.func63, Tryz.ntmps63; go_upto_block 0 with (fail); have hs1 : w.heap.size ≤ (w.alloc (.cells #[.bool b, .slice A la c] 52)).heap.size := hbA.size; have HBA := zh hbA; generalize w.alloc (.cells #[.bool b, .slice A la c] 52) = w1 at *; go_wp2
  go_loopw [3, 4] (fun s3 s4 wr => ∃ (m lm cm cp k : Nat) (M P : Option Addr) (ps : List Nat), s3 = .slice P k cp ∧ s4 = .slice M lm cm ∧ lm ≤ 40000 ∧ k ≤ 60000 ∧ Hid ((dg m).length = lm ∧ m = v / 10 ^ (9 * k) ∧ ND wr M cm m ∧ DgP w.heap.size w wr v P cp k ps)) (fun _ s4 wr => nmes s4 wr)
  case atStart => exact ⟨v, la, c, 0, 0, A, none, [], rfl, rfl, hn, by omega, zh ⟨HLA.out, by simp, HA1.out, World.ownsRow_nil _ _ _ _, rfl, fun i h => absurd h (by simp), HBA.out⟩⟩
  case round =>
   obtain ⟨wo, rfl⟩ : ∃ wo : World, wo = wr := ⟨_, rfl⟩; obtain ⟨m, lm, cm, cp, k, M, P, ps, rfl, rfl, hlm, hk, HM⟩ := hrel; obtain ⟨h1, h2, h3, h4⟩ := HM.out
   by_cases hm0 : lm = 0
   ·subst hm0
    have hvz : v / 10 ^ (9 * k) = 0 := by rw [← h2]; by_cases hm : m = 0; exact hm; have := dg_len_pos.2 hm; omega
    have HP := zh h4
    have hk0 : 0 < k := by
     rcases Nat.eq_zero_or_pos k with h | h
     ·subst h; exact absurd (by simpa using hvz) HV0.out
     ·exact h
    have HVZ := zh hvz
    have hPl : ∃ pd, P = some pd := by
     obtain ⟨P', c', e, _, hS⟩ := Sl.of_own h4.own
     injection e with e1 e2 e3
     subst e1 e3; obtain ⟨pd, e, _⟩ := hS.lies hk0; exact ⟨pd, e⟩
    obtain ⟨pd, rfl⟩ := hPl
    have hPc : Hid (∀ (i : Nat) (h : i < ps.length) (V : World), Below wo.heap.size wo V → V.cell? (pd.add i) = some (.int .u32 (ps[i] : Nat))) := zh (fun i h V hV => by
     obtain ⟨P', c', e, _, hS⟩ := Sl.of_own h4.own
     injection e with e1 e2 e3
     subst e1 e3; obtain ⟨pd', e, _, ha⟩ := hS.lies hk0
     injection e with e
     subst e
     exact keep_cell hV (ha i _ (by rw [List.getElem?_map, List.getElem?_eq_getElem h]; rfl)))
    have HLN := zh h4.len; clear h1 h2 h3 h4 hvz HM; go_upto_block 2 with (fail); go_wp2
    go_loopw [7, 8] (fun s7 s8 wr => ∃ (i co : Nat) (O : Option Addr) (L : List UInt8), s7 = .slice O L.length co ∧ s8 = .int .i64 ((i : Int) - 1) ∧ i ≤ k ∧ L.length + 9 * i ≤ 9 * k ∧ Hid (L = ddg (v / 10 ^ (9 * i))) ∧ wr.ownsRow wo.heap.size 5 1 (.slice O L.length co) L.length (L.map vb) ∧ Below wo.heap.size wo wr) (fun _ s8 _ => (intOf s8 + 1).toNat)
    case atStart => exact ⟨k, 0, none, [], rfl, rfl, Nat.le_refl _, by simp, zh (by rw [HVZ.out]; rfl), World.ownsRow_nil _ _ _ _, Below.refl _ _⟩
    case round =>
     obtain ⟨wp, rfl⟩ : ∃ wp : World, wp = wr := ⟨_, rfl⟩; obtain ⟨i, co, O, L, rfl, rfl, hik, hLi, HL, hown, hbr⟩ := hrel
     cases i with
     | zero =>
       obtain ⟨O', co', hvv, hcc, hS⟩ := Sl.of_own hown
       injection hvv with e1 e2 e3
       subst e1 e3; have hconv := conv_name wp O co L hS; have HF : Hid (L = Lib.decDigits v) := zh (by rw [HL.out, Nat.mul_zero, Nat.pow_zero, Nat.div_one, HDV.out]); have HBE := zh (below_all HP.out.below hbr); clear hown hS hcc HP hPc HLN HVZ; go_wp2; go_ret; have hf := HF.out; subst hf; exact ⟨rfl, HBE.out⟩
     | succ i =>
       have hkk : ((i + 1 : Nat) : Int) - 1 = (i : Int) := by omega
       rw [hkk]
       have q0 : (0 : Int) ≤ (i : Int) := by omega
       have q0' : decide ((0 : Int) ≤ (i : Int)) = true := dT q0
       have q1 : (i : Int) < (k : Int) := by omega
       have q3 : ((i : Int)).toNat = i := by omega
       have hil : i < ps.length := by rw [HLN.out]; omega
       obtain ⟨p, hp⟩ := eqx (ps[i]); have HPD : Hid (p = v / 10 ^ (9 * i) % 10 ^ 9) := zh (by rw [← hp]; exact HP.out.dig i hil)
       have hpB : p < 1000000000 := by rw [HPD.out]; exact Nat.mod_lt _ (by decide)
       have HPC : Hid (∀ V, Below wo.heap.size wo V → V.cell? (pd.add i) = some (.int .u32 (p : Nat))) := zh (fun V hV => by
        have := hPc.out i hil V hV
        rwa [hp] at this)
       have HBP := zh (below_all HP.out.below hbr); have HBR := zh hbr; have hsz0 := hbr.size
       have hLi9 : L.length ≤ 9 * (k - i - 1) := by omega
       have HL9 : Hid (L = ddg (v / 10 ^ (9 * i + 9))) := HL; have HO := zh hown; clear hp hil HL hbr hown; go_upto_block 4 with (fail); go_wp2
       go_loopw [7, 9] (fun s7 s9 wr => ∃ (j dv : Nat) (O : Option Addr) (co : Nat) (L : List UInt8), s7 = .slice O L.length co ∧ s9 = .int .u32 dv ∧ j ≤ 9 ∧ dv ≤ 100000000 ∧ Hid (dv = 10 ^ j / 10) ∧ Hid (L = ddg (v / 10 ^ (9 * i + j))) ∧ L.length + j + 9 * i ≤ 9 * k ∧ wr.ownsRow wo.heap.size 5 1 (.slice O L.length co) L.length (L.map vb) ∧ Below wo.heap.size wo wr) (fun _ s9 _ => (intOf s9).toNat)
       case atStart => exact ⟨9, 100000000, O, co, L, rfl, rfl, by omega, by omega, zh (by decide), HL9, by omega, HO.out, HBR.out⟩
       case round =>
        clear HO HL9; obtain ⟨wq, rfl⟩ : ∃ wq : World, wq = wr := ⟨_, rfl⟩; obtain ⟨j, dv, O, co, L, rfl, rfl, hj, hdv, HDD, HL, hLj, hown, hbr⟩ := hrel
        cases j with
        | zero =>
          obtain rfl : dv = 0 := HDD.out; have HL0 : Hid (L = ddg (v / 10 ^ (9 * i))) := HL; have m1 : IntKind.i64.wrap ((i : Int) - 1) = (i : Int) - 1 := IntWalk.i64_in _ (by omega); clear HL HDD; go_wp2; go_roundw
          case rel => exact ⟨i, co, O, L, rfl, rfl, by omega, by omega, HL0, hown, hbr⟩
          case measure => simp [intOf]
        | succ j =>
          have e10 : 10 ^ (j + 1) / 10 = 10 ^ j := by rw [Nat.pow_succ]; omega
          have hpos : 0 < 10 ^ j := Nat.pow_pos (by omega); have hdv' := HDD.out; rw [e10] at hdv'
          have hdp : 0 < dv := by omega
          obtain ⟨x, hx⟩ := eqx (v / 10 ^ (9 * i + (j + 1)))
          have HPS : Hid (v / 10 ^ (9 * i + j) = 10 * x + p / dv % 10) := zh (by
           have h1 := pow_split v (9 * i + j); rw [part_digit HPD.out (by omega)] at h1; rw [← hx, hdv']
           exact h1)
          rw [hx] at HL; have hrl : p / dv % 10 < 10 := Nat.mod_lt _ (by omega); have hql : p / dv ≤ p := Nat.div_le_self _ _; have HDV2 := zh hdv'; clear hdv' hpos e10 hx; obtain ⟨q, hq⟩ := eqx (p / dv); obtain ⟨r, hr⟩ := eqx (q % 10)
          have hq1 : (p : Int) / (dv : Int) = (q : Int) := by rw [← hq]; simp
          have hr1 : (q : Int) % 10 = (r : Int) := by rw [← hr]; simp
          rw [hq, hr] at HPS hrl; rw [hq] at hql; clear hq hr; have hcp := HPC.out wq hbr
          have hwr : ((48 : Int) + (r : Int)) % 4294967296 = 48 + (r : Int) := by omega
          have hw8 : ((48 : Int) + (r : Int)) % 256 = 48 + (r : Int) := by omega
          obtain ⟨dn, hdn⟩ := eqx (dv / 10); have HDN : Hid (dn = 10 ^ j / 10) := zh (by rw [← hdn, HDV2.out])
          have hdn1 : (dv : Int).tdiv 10 = (dn : Int) := by rw [← hdn]; exact (Int.ofNat_tdiv dv 10).symm
          have hdn2 : (dv : Int) / 10 = (dn : Int) := by rw [← hdn]; simp
          have hdnl : dn < dv := by omega
          clear hdn
          have HX0 : Hid (L = [] ↔ x = 0) := zh (by
           rw [HL.out]; unfold ddg
           by_cases h : x = 0
           ·simp [h]
           ·simp only [h, iff_false]
            exact Qn.dec_ne x)
          have hsz := hbr.size
          by_cases hz : x = 0 ∧ r = 0
          ·have HL2 : Hid (L = ddg (v / 10 ^ (9 * i + j))) := zh (by rw [HPS.out, HL.out, hz.1, hz.2]); have hL0 := HX0.out.2 hz.1
           have hd0 : decide ((0 : Int) < (L.length : Int)) = false := by rw [hL0]; rfl
           have hd0' : decide (0 < L.length) = false := by rw [hL0]; rfl
           have hr0 : ((48 : Int) + (r : Int) != 48) = false := by rw [hz.2]; rfl
           clear HL HPS hL0 hz; go_wp2; go_roundw
           case rel => exact ⟨j, dn, O, co, L, rfl, rfl, by omega, by omega, HDN, HL2, by omega, hown, hbr⟩
           case measure => simp [intOf]; omega
          ·have HL2 : Hid (L ++ [UInt8.ofNat (48 + r)] = ddg (v / 10 ^ (9 * i + j))) := zh (by rw [HPS.out, ddg_step x r hrl hz, HL.out])
           have hvb : Value.int .u8 (48 + (r : Int)) = vb (UInt8.ofNat (48 + r)) := by
            have : (UInt8.ofNat (48 + r)).toNat = 48 + r := Qn.toNat_ofNat _ (by omega); unfold vb; rw [this]; simp
           have HVB := zh hvb; clear hvb
           by_cases hL0 : L = []
           ·have hr0 : ((48 : Int) + (r : Int) != 48) = true := by
             have hx0 := HX0.out.1 hL0; simp; omega
            have hd0 : decide ((0 : Int) < (L.length : Int)) = false := by rw [hL0]; rfl
            have hd0' : decide (0 < L.length) = false := by rw [hL0]; rfl
            clear HL HPS hz hL0
            go_wp2_with (at_builtin; refine wpList_append_own _ rfl _ _ 91 rfl wo.heap.size 5 ib (.int .u8 0) 1 1 Tryz.underlying91 hib hbz0 hbz1 hbz2 rfl (by decide) (.slice O L.length co) L.length (L.map vb) rfl (hown.alloc _) ⟨wq.heap.size, 0, none⟩ 1 1 [.int .u8 (48 + (r : Int))] rfl rfl ?c1 ?c2 ?c3 ?c4 ?c5 ?_
                         case c1 => exact cell_one_new _ _ _
                         case c2 => simp [Value.oneCell']
                         case c3 => simp only [maxLen]; omega
                         case c4 => omega
                         case c5 => simp; omega
                         intro v' w3 hown' hgrow _)
            obtain ⟨R, cr2, hvv, hcr2, hS⟩ := Sl.of_own hown'; subst hvv; go_roundw
            case rel =>
             refine ⟨j, dn, R, cr2, L ++ [UInt8.ofNat (48 + r)], by simp, rfl, by omega, by omega, HDN, HL2, by simp; omega, ?_, ?_⟩
             ·rw [HVB.out] at hown'; simpa using hown'
             ·exact (hbr.alloc hbr.size _).grown hgrow (by simp; omega) (fun j hj => (hown.lt j hj).1)
            case measure => simp [intOf]; omega
           ·have hLp : 0 < L.length := List.length_pos_iff.2 hL0
            have hd0 : decide ((0 : Int) < (L.length : Int)) = true := by simp; omega
            have hd0' : decide (0 < L.length) = true := by simp; omega
            clear HL HPS hz hL0
            go_wp2_with (at_builtin; refine wpList_append_own _ rfl _ _ 91 rfl wo.heap.size 5 ib (.int .u8 0) 1 1 Tryz.underlying91 hib hbz0 hbz1 hbz2 rfl (by decide) (.slice O L.length co) L.length (L.map vb) rfl (hown.alloc _) ⟨wq.heap.size, 0, none⟩ 1 1 [.int .u8 (48 + (r : Int))] rfl rfl ?c1 ?c2 ?c3 ?c4 ?c5 ?_
                         case c1 => exact cell_one_new _ _ _
                         case c2 => simp [Value.oneCell']
                         case c3 => simp only [maxLen]; omega
                         case c4 => omega
                         case c5 => simp; omega
                         intro v' w3 hown' hgrow _)
            obtain ⟨R, cr2, hvv, hcr2, hS⟩ := Sl.of_own hown'; subst hvv; go_roundw
            case rel =>
             refine ⟨j, dn, R, cr2, L ++ [UInt8.ofNat (48 + r)], by simp, rfl, by omega, by omega, HDN, HL2, by simp; omega, ?_, ?_⟩
             ·rw [HVB.out] at hown'; simpa using hown'
             ·exact (hbr.alloc hbr.size _).grown hgrow (by simp; omega) (fun j hj => (hown.lt j hj).1)
            case measure => simp [intOf]; omega
   ·have d1 : decide ((0 : Int) < (lm : Int)) = true := dT (by omega); have d2 : decide (0 < lm) = true := dT (by omega)
    have hm : m ≠ 0 := fun e => hm0 (by rw [← h1, e, dg_zero]; rfl)
    have hkb : k ≤ 50000 := parts_bound (by rw [← h2]; exact hm) (by rw [HLA.out]; exact hn); have HSD := zh (HS.out M cm m lm wo h3 h1 hlm); obtain ⟨m2, hm2⟩ := eqx (m / 10 ^ 9); obtain ⟨r, hr⟩ := eqx (m % 10 ^ 9); obtain ⟨lm2, hlm2⟩ := eqx ((dg m2).length); rw [hm2, hr, hlm2] at HSD
    have hlm2' : lm2 ≤ 40000 := by
     rw [← hlm2, ← hm2]; exact Nat.le_trans (dg_len_mono (Nat.div_le_self _ _)) (by omega)
    have HNX : Hid ((dg m2).length = lm2 ∧ m2 = v / 10 ^ (9 * (k + 1)) ∧ (ps ++ [r]).length = k + 1 ∧ (∀ i (h : i < (ps ++ [r]).length), (ps ++ [r])[i] = v / 10 ^ (9 * i) % 10 ^ 9) ∧ m2 < m) := zh (by
     refine ⟨hlm2, ?_, by simp [h4.len], fun i h => ?_, ?_⟩
     ·rw [← hm2, h2, Nat.div_div_eq_div_mul, ← Nat.pow_add]; rfl
     ·by_cases hi : i < ps.length
      ·rw [List.getElem_append_left hi]; exact h4.dig i hi
      ·have : i = ps.length := by simp at h; omega
       subst this; rw [List.getElem_append_right (Nat.le_refl _)]; simp only [Nat.sub_self, List.getElem_cons_zero]; rw [← hr, h2, h4.len]
     ·rw [← hm2]; exact Nat.div_lt_self (Nat.pos_of_ne_zero hm) (by decide))
    have HMS : Hid (nmes (.slice M lm cm) wo = m) := zh (by rw [← h1]; exact nmes_eq h3.digs); have hown := h4.own; have HBO := zh h4.below; have hbw := h4.below.size; have HLN := zh h4.len; clear h1 h2 h3 h4 hm hm2 hr hlm2 HM
    go_wp2_with (first
      | (go_at_call 81; refine HSD.out.mono ?_; rintro e w2 ⟨cr, rfl, hR, hb2⟩; have hs2 := hb2.size; have HR := zh hR; have HB2 := zh hb2; have hown2 := own_below hown hb2 (Nat.le_refl _); clear hR hb2)
      | (at_builtin; refine wpList_append_own _ rfl _ _ 50 rfl w.heap.size 103 i0 (.int .u32 0) 1 4 Tryz.underlying50 hi hz0 hz1 hz2 rfl (by decide) (.slice P k cp) k (ps.map vd) rfl (hown2.alloc _) ⟨w2.heap.size, 0, none⟩ 1 1 [.int .u32 (r : Nat)] rfl rfl ?c1 ?c2 ?c3 ?c4 ?c5 ?_
         case c1 => exact cell_one_new _ _ _
         case c2 => simp [Value.oneCell']
         case c3 => simp only [maxLen]; omega
         case c4 => omega
         case c5 => simp; omega
         intro v' w3 hown' hgrow _; obtain ⟨P2, cp2, hvv, hcr, hS⟩ := Sl.of_own hown'
         subst hvv))
    have hfar : some wo.heap.size ≠ (Value.slice P k cp).ownBlock := fun e => by have := (hown.lt _ e.symm).2; omega
    have hN3 : ND w3 (some ⟨wo.heap.size, 0, none⟩) cr m2 := nd_grown (HR.out.keep (bal)) hgrow hfar
    have hb3 : Below w.heap.size w w3 := by
     have h2 := below_all HBO.out HB2.out; exact (h2.alloc h2.size _).grown hgrow (by simp; omega) (fun j hj => (hown.lt j hj).1)
    refine ⟨⟨m2, lm2, cr, cp2, k + 1, _, P2, ps ++ [r], rfl, rfl, hlm2', by omega, zh ⟨HNX.out.1, HNX.out.2.1, hN3, ⟨?_, HNX.out.2.2.1, HNX.out.2.2.2.1, hb3⟩⟩⟩, ?_⟩
    ·rw [List.map_append]; exact hown'
    ·rw [HMS.out]; have := nmes_eq (c := cr) hN3.digs; rw [HNX.out.1] at this; rw [this]; exact HNX.out.2.2.2.2
end
end Go.Proofs.Tg
