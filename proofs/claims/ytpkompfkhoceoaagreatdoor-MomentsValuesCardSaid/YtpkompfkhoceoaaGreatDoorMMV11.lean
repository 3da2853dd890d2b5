/- Parts of the proof: BN24, BN4, BN18. -/
import Derived.Deep.Cut
import Derived.Test.YtpkompfkhoceoaaGreatDoorMMV3
import Derived.Test.YtpkompfkhoceoaaGreatDoorMMV9
import Derived.Test.YtpkompfkhoceoaaGreatDoorMMV10
section
/- The harness's numbers: fractions in lowest terms, any size of the numerator. -/
namespace Go.Proofs.Tg
open Go.RowKit Go.Gr Go.Bn
set_option maxHeartbeats 4000000
set_option maxRecDepth 100000
/-- What the field of the denominator holds. -/
def dnz (x : Nat) : Nat := if x = 1 then 0 else x
theorem dnz_pos {x : Nat} (h : x ≠ 1) : dnz x = x := if_neg h
theorem dnz_one : dnz 1 = 0 := rfl
def RetFr (p : Bool) (n m : Nat) (w : World) (e : Ending) (w' : World) : Prop :=
  ∃ N cn D cd, e = .returned (.agg #[.bool p, .slice N (dg n).length cn, .bool false, .slice D (dg (dnz m)).length cd]) ∧ ND w' N cn n ∧ ND w' D cd (dnz m) ∧ Below w.heap.size w w'
structure FqSt (w : World) (p : Bool) (n m : Nat) (N : Option Addr) (cn : Nat) (D : Option Addr) (cd : Nat) (wx : World) : Prop where
  below : Below w.heap.size w wx
  b0 : Blk wx w.heap.size 50 #[.bool p, .slice N (dg n).length cn]
  b1 : Blk wx (w.heap.size + 1) 50 #[.bool false, .slice D (dg m).length cd]
  b2 : Blk wx (w.heap.size + 1 + 1) 52 #[.bool false, .slice none 0 0, .bool false, .slice none 0 0]
  dn : ND wx N cn n
  dd : ND wx D cd m
theorem frac_num (p : Bool) (A B : Option Addr) (c d a b : Nat) (w : World) (hA : ND w A c a) (hB : ND w B d b) (ha : (dg a).length ≤ 200000) (hd : DvOk b) (hb0 : b ≠ 0) (hp : p = true → a ≠ 0) :
    Calls Tryz.prog 46 #[.agg #[.bool p, .slice A (dg a).length c], .agg #[.bool false, .slice B (dg b).length d]] w (RetFr p (a / Nat.gcd a b) (b / Nat.gcd a b) w) := by
  have hb : b < 4294967296 := hd
  have hbl1 : (dg b).length ≤ 200000 := by rw [dg_small hb0 hb]; simp
  have HG : Hid (∀ W, Below w.heap.size w W → Calls Tryz.prog 76 #[.agg #[.bool p, .slice A (dg a).length c], .agg #[.bool false, .slice B (dg b).length d]] W (RetGc (Nat.gcd a b) W)) := Lib.hid (fun W h => gcd_num p false A B c d a b W (hA.keep h) (hB.keep h) ha hd hbl1)
  have hg0 : Nat.gcd a b ≠ 0 := Nat.pos_iff_ne_zero.1 (Nat.gcd_pos_of_pos_right _ (by omega))
  have hgl : Nat.gcd a b ≤ b := Nat.gcd_le_right _ (by omega)
  have hm0 : b / Nat.gcd a b ≠ 0 := Nat.pos_iff_ne_zero.1 (Nat.div_pos hgl (by omega))
  have hml : b / Nat.gcd a b ≤ b := Nat.div_le_self _ _
  have HSG : Hid (p = true → a / Nat.gcd a b ≠ 0) := Lib.hid (fun h => Nat.pos_iff_ne_zero.1 (Nat.div_pos (Nat.gcd_le_left _ (Nat.pos_of_ne_zero (hp h))) (by omega)))
  generalize Nat.gcd a b = g at *
  have hgB : g < 4294967296 := by omega
  have hdg : DvOk g := hgB
  clear hbl1
  have hng : (dg g).length = 1 := by rw [dg_small hg0 hgB]; rfl
  have hnb : (dg b).length = 1 := by rw [dg_small hb0 hb]; rfl
  obtain ⟨na, hna⟩ : ∃ na, (dg a).length = na := ⟨_, rfl⟩
  rw [hna, hnb] at HG
  rw [hna, hnb]
  unfold RetGc at HG
  rw [hng] at HG
  have HNA := Lib.hid hna
  have hal : na ≤ 200000 := by omega
  have HNB1 := Lib.hid hnb
  have HNG1 := Lib.hid hng
  clear hna hnb hng
  obtain ⟨W, hW⟩ : ∃ W, ((w.alloc (.cells #[.bool p, .slice A na c] 50)).alloc (.cells #[.bool false, .slice B 1 d] 50)).alloc (.cells #[.bool false, .slice none 0 0, .bool false, .slice none 0 0] 52) = W := ⟨_, rfl⟩
  have B0 : Blk W w.heap.size 50 #[.bool p, .slice A na c] := by rw [← hW]; exact ((Blk.new _ _ _).alloc _).alloc _
  have B1 : Blk W (w.heap.size + 1) 50 #[.bool false, .slice B 1 d] := by
    rw [← hW]; have := (Blk.new (w.alloc (.cells #[.bool p, .slice A na c] 50)) 50 #[.bool false, .slice B 1 d]).alloc (.cells #[.bool false, .slice none 0 0, .bool false, .slice none 0 0] 52)
    simpa using this
  have B2 : Blk W (w.heap.size + 1 + 1) 52 #[.bool false, .slice none 0 0, .bool false, .slice none 0 0] := by
    rw [← hW]; have := (Blk.new ((w.alloc (.cells #[.bool p, .slice A na c] 50)).alloc (.cells #[.bool false, .slice B 1 d] 50)) 52 #[.bool false, .slice none 0 0, .bool false, .slice none 0 0])
    simpa using this
  have hbW : Below w.heap.size w W := by rw [← hW]; exact (((Below.refl _ _).alloc (Nat.le_refl _) _).alloc (by simp) _).alloc (by simp; omega) _
  have hWs : W.heap.size = w.heap.size + 3 := by rw [← hW]; simp
  obtain ⟨a0, a1, _, _⟩ := B0.two
  obtain ⟨b0, b1, _, _⟩ := B1.two
  go_enter Tryz.func46, Tryz.ntmps46
  go_upto_region 1 with (fail)
  clear hW
  go_upto_region 4 with (go_at_call 76; refine (HG.out _ hbW).mono ?_; rintro e w2 ⟨G, cg, rfl, hG, hb2⟩)
  obtain ⟨V, hV⟩ : ∃ V, w2.alloc (.cells #[.bool false, .slice G 1 cg] 50) = V := ⟨_, rfl⟩
  try rw [hV]
  have hbV : Below w2.heap.size w2 V := by rw [← hV]; exact (Below.refl _ _).alloc (Nat.le_refl _) _
  have C5 : Blk V w2.heap.size 50 #[.bool false, .slice G 1 cg] := by rw [← hV]; exact Blk.new _ _ _
  have C0 := (B0.keep hb2 B0.lt).keep hbV (B0.keep hb2 B0.lt).lt
  have C1 := (B1.keep hb2 B1.lt).keep hbV (B1.keep hb2 B1.lt).lt
  have C2 := (B2.keep hb2 B2.lt).keep hbV (B2.keep hb2 B2.lt).lt
  have hbwV := below_all (below_all hbW hb2) hbV
  have hGV := hG.keep hbV
  have hs2 : W.heap.size ≤ w2.heap.size := hb2.size
  clear hb2 hG hbV hV a0 a1 b0 b1 B0 B1 B2 HG
  obtain ⟨g0, g1, _, _⟩ := C5.two
  have HB : Hid (Calls Tryz.prog 77 #[.agg #[.bool false, .slice G 1 cg]] V fun e w' => e = .returned (.int .i64 (blen g : Nat)) ∧ Below V.heap.size V w') := Lib.hid (bits_one false G cg g V (by have := hGV.digs; rwa [dg_small hg0 hgB] at this) (by omega))
  have hbl := blen_le g g (Nat.le_refl _)
  have HBG := Lib.hid (blen_gt (v := g))
  obtain ⟨bg, hbg⟩ : ∃ bg, blen g = bg := ⟨_, rfl⟩
  rw [hbg] at HB HBG hbl
  clear hbg
  go_upto_if 17 with (go_at_call 77; refine HB.out.mono ?_; rintro e w3 ⟨rfl, hb3⟩)
  have D0 := C0.keep hb3 C0.lt
  have D1 := C1.keep hb3 C1.lt
  have D2 := C2.keep hb3 C2.lt
  have D5 := C5.keep hb3 C5.lt
  have hb3' := below_all hbwV hb3
  have hG3 := hGV.keep hb3
  have HSN : Hid (∀ W N cn D cd, FqSt w p (a / g) (b / g) N cn D cd W → FqSt w p (a / g) (b / g) N cn D cd W) := Lib.hid (fun _ _ _ _ _ h => h)
  go_cut [] from 17 (fun wx => ∃ N cn D cd, FqSt w p (a / g) (b / g) N cn D cd wx)
  case first =>
    by_cases h1 : g = 1
    · have hbb : decide ((1 : Int) < (bg : Int)) = false := by
        have := HBG.out
        simp; omega
      have hbb' : decide (1 < bg) = false := by
        have := HBG.out
        simp; omega
      have HF : Hid (FqSt w p (a / g) (b / g) A c B d w3) := Lib.hid (by
        rw [h1, Nat.div_one, Nat.div_one]
        exact ⟨hb3', by rw [HNA.out]; exact D0, by rw [HNB1.out]; exact D1, D2, hA.keep hb3', hB.keep hb3'⟩)
      go_wp2
      go_meet
      exact ⟨A, c, B, d, HF.out⟩
    · have hbb : decide ((1 : Int) < (bg : Int)) = true := by
        have := HBG.out
        simp; omega
      have hbb' : decide (1 < bg) = true := by
        have := HBG.out
        simp; omega
      have hbi : (1 : Int) < (bg : Int) := by
        have := HBG.out
        omega
      have HQ1 : Hid (∀ W, Below w3.heap.size w3 W → Calls Tryz.prog 78 #[.agg #[.bool p, .slice A na c], .agg #[.bool false, .slice G 1 cg]] W (RetQn p false a g W)) := Lib.hid (fun W h => by
        have := quorem_num p false A G c cg a g W ((hA.keep hb3').keep h) (hG3.keep h) ha hg0 hdg
        rw [HNA.out, HNG1.out] at this
        exact this)
      have HQ2 : Hid (∀ W, ND W B d b → ND W G cg g → Calls Tryz.prog 78 #[.agg #[.bool false, .slice B 1 d], .agg #[.bool false, .slice G 1 cg]] W (RetQn false false b g W)) := Lib.hid (fun W h h' => by
        have := quorem_num false false B G d cg b g W h h' (by rw [HNB1.out]; omega) hg0 hdg
        rw [HNB1.out, HNG1.out] at this
        exact this)
      have hsg : ((p != false) && decide (a / g ≠ 0)) = p := by
        have := HSG.out
        cases p with
        | false => rfl
        | true => simp [this rfl]
      have hsg2 : ((false != false) && decide (b / g ≠ 0)) = false := rfl
      unfold RetQn at HQ1 HQ2
      rw [hsg] at HQ1
      rw [hsg2] at HQ2
      clear hsg hsg2
      generalize a / g = qn at *
      generalize b / g = qm at *
      obtain ⟨d0, d1, d2, d3⟩ := D0.two
      obtain ⟨f0, f1, _, _⟩ := D5.two
      go_wp2_with (fail)
      refine (HQ1.out _ (Below.refl _ _)).mono ?_
      rintro e w4 ⟨N, cn, _, _, rfl, hN, _, hb4⟩
      clear d0 d1 d2 d3 f0 f1
      have E0 := D0.keep hb4 D0.lt
      have E1 := D1.keep hb4 D1.lt
      have E2 := D2.keep hb4 D2.lt
      have E5 := D5.keep hb4 D5.lt
      have E5lt := D5.lt
      obtain ⟨d0, d1, d2, d3⟩ := E0.two
      have hB4 : ND w4 B d b := (hB.keep hb3').keep hb4
      have hG4 := hG3.keep hb4
      obtain ⟨V5, hV5⟩ : ∃ V5, (w4.setCell ⟨w.heap.size, 0, none⟩ (.bool p)).setCell ⟨w.heap.size, 1, none⟩ (.slice N (dg qn).length cn) = V5 := ⟨_, rfl⟩
      have F0 : Blk V5 w.heap.size 50 #[.bool p, .slice N (dg qn).length cn] := by rw [← hV5]; exact (E0.set 0 _).set 1 _
      have F1 : Blk V5 (w.heap.size + 1) 50 #[.bool false, .slice B 1 d] := by rw [← hV5]; exact (E1.far (by simp) _).far (by simp) _
      have F2 : Blk V5 (w.heap.size + 1 + 1) 52 #[.bool false, .slice none 0 0, .bool false, .slice none 0 0] := by rw [← hV5]; exact (E2.far (by simp; omega) _).far (by simp; omega) _
      have F5 : Blk V5 w2.heap.size 50 #[.bool false, .slice G 1 cg] := by rw [← hV5]; exact (E5.far (by simp; omega) _).far (by simp; omega) _
      have hN5 : ND V5 N cn qn := by rw [← hV5]; exact (hN.far E0 (by decide) _ _).far (E0.set _ _) (by decide) _ _
      have hB5 : ND V5 B d b := by rw [← hV5]; exact (hB4.far E0 (by decide) _ _).far (E0.set _ _) (by decide) _ _
      have hG5 : ND V5 G cg g := by rw [← hV5]; exact (hG4.far E0 (by decide) _ _).far (E0.set _ _) (by decide) _ _
      have hb5 : Below w.heap.size w V5 := by rw [← hV5]; exact below_far (below_far (below_all hb3' hb4) (Nat.le_refl _) _ _) (Nat.le_refl _) _ _
      clear E0 E1 E2 E5 hN hB4 hG4 hb4
      obtain ⟨e0, e1, e2, e3⟩ := F1.two
      obtain ⟨f0, f1, _, _⟩ := F5.two
      go_upto_region 6 with (fail)
      try rw [hV5]
      clear hV5 d0 d1 d2 d3
      go_wp2_with (fail)
      refine (HQ2.out _ hB5 hG5).mono ?_
      rintro e w6 ⟨D, cd, _, _, rfl, hD, _, hb6⟩
      have G1 := F1.keep hb6 F1.lt
      clear e0 e1 e2 e3 f0 f1
      obtain ⟨e0, e1, e2, e3⟩ := G1.two
      go_wp2
      go_meet
      refine ⟨N, cn, D, cd, ?_, ?_, ?_, ?_, ?_, ?_⟩
      · exact below_far (below_far (below_all hb5 hb6) (by omega) _ _) (by omega) _ _
      · exact ((F0.keep hb6 F0.lt).far (by simp) _).far (by simp) _
      · exact (G1.set 0 _).set 1 _
      · exact ((F2.keep hb6 F2.lt).far (by simp) _).far (by simp) _
      · exact ((hN5.keep hb6).far G1 (by decide) _ _).far (G1.set _ _) (by decide) _ _
      · exact (hD.far G1 (by decide) _ _).far (G1.set _ _) (by decide) _ _
      all_goals (exfalso; omega)
  case rest =>
    obtain ⟨N, cn, D, cd, hst⟩ := hcut
    obtain ⟨hbx, X0, X1, X2, dn, dd⟩ := hst
    clear C0 C1 C2 C5 D0 D1 D2 D5 g0 g1
    generalize a / g = qn at *
    have HFIN := Lib.hid dn
    have HFID := Lib.hid dd
    have hmB : b / g < 4294967296 := by omega
    generalize b / g = qm at *
    have hml1 : (dg qm).length = 1 := by rw [dg_small hm0 hmB]; rfl
    rw [hml1] at X1
    have HML1 := Lib.hid hml1
    clear hml1
    have HB2 : Hid (Calls Tryz.prog 77 #[.agg #[.bool false, .slice D 1 cd]] wc fun e w' => e = .returned (.int .i64 (blen qm : Nat)) ∧ Below wc.heap.size wc w') := Lib.hid (bits_one false D cd qm wc (by have := dd.digs; rwa [dg_small hm0 hmB] at this) (by omega))
    have hbl2 := blen_le qm qm (Nat.le_refl _)
    have HB1 := Lib.hid (blen_one (v := qm))
    obtain ⟨bm, hbm⟩ : ∃ bm, blen qm = bm := ⟨_, rfl⟩
    rw [hbm] at HB2 HB1 hbl2
    clear hbm
    obtain ⟨nn, hnn⟩ : ∃ nn, (dg qn).length = nn := ⟨_, rfl⟩
    rw [hnn] at X0
    have HNN := Lib.hid hnn
    clear hnn
    obtain ⟨x0, x1, _, _⟩ := X0.two
    obtain ⟨y0, y1, y2, y3⟩ := X1.two
    by_cases hm1 : qm = 1
    · have hbb : ((bm : Int) == 1) = true := by
        have := HB1.out.2 hm1
        simp [this]
      have hbb' : (bm == 1) = true := by
        have := HB1.out.2 hm1
        simp [this]
      have HDL : Hid (dnz qm = 0) := Lib.hid (if_pos hm1)
      clear hm1
      go_wp2_with (go_at_call 77; refine HB2.out.mono ?_; rintro e w7 ⟨rfl, hb7⟩
                   have Y0 := X0.keep hb7 X0.lt
                   have Y1 := X1.keep hb7 X1.lt
                   have Y2 := X2.keep hb7 X2.lt
                   obtain ⟨x0, x1, x2, x3⟩ := Y0.two
                   obtain ⟨y0, y1, y2, y3⟩ := Y1.two
                   obtain ⟨z0, z1, z2, z3, v0, v1, v2, v3⟩ := Y2.four)
      have hn7 := HFIN.out.keep hb7
      have Y2' := fun u u' => (Y2.far (p := ⟨w.heap.size + 1, 0, none⟩) (by simp) u).far (p := ⟨w.heap.size + 1, 1, none⟩) (by simp) u'
      refine bodyPost_ret (v := .agg #[.bool p, .slice N nn cn, .bool false, .slice none 0 0]) (by simp [results, Tryz.results46, go_sem, z0, z1, z2, z3]) rfl ⟨N, cn, none, 0, by rw [HNN.out, HDL.out, dg_zero]; rfl, ?_, by rw [HDL.out]; exact ND.zero _, ?_⟩
      · exact ((((hn7.far Y1 (by decide) _ _).far (Y1.set _ _) (by decide) _ _).far (Y2' _ _) (by decide) _ _).far ((Y2' _ _).set _ _) (by decide) _ _ |>.far (((Y2' _ _).set _ _).set _ _) (by decide) _ _).far ((((Y2' _ _).set _ _).set _ _).set _ _) (by decide) _ _
      · exact below_far (below_far (below_far (below_far (below_far (below_far (below_all hbx hb7) (by omega) _ _) (by omega) _ _) (by omega) _ _) (by omega) _ _) (by omega) _ _) (by omega) _ _
    · have hbb : ((bm : Int) == 1) = false := by
        have := HB1.out
        simp; omega
      have hbb' : (bm == 1) = false := by
        have := HB1.out
        simp; omega
      have HDL : Hid (dnz qm = qm) := Lib.hid (if_neg hm1)
      have HM0 := Lib.hid hm0
      clear hm1
      go_wp2_with (go_at_call 77; refine HB2.out.mono ?_; rintro e w7 ⟨rfl, hb7⟩
                   have Y0 := X0.keep hb7 X0.lt
                   have Y1 := X1.keep hb7 X1.lt
                   have Y2 := X2.keep hb7 X2.lt
                   obtain ⟨x0, x1, x2, x3⟩ := Y0.two
                   obtain ⟨y0, y1, y2, y3⟩ := Y1.two
                   obtain ⟨z0, z1, z2, z3, v0, v1, v2, v3⟩ := Y2.four)
      have hn7 := HFIN.out.keep hb7
      have hd7 := HFID.out.keep hb7
      refine bodyPost_ret (v := .agg #[.bool p, .slice N nn cn, .bool false, .slice D 1 cd]) (by simp [results, Tryz.results46, go_sem, z0, z1, z2, z3]) rfl ⟨N, cn, D, cd, by rw [HNN.out, HDL.out, HML1.out], ?_, ?_, ?_⟩
      · exact (((hn7.far Y2 (by decide) _ _).far (Y2.set _ _) (by decide) _ _).far ((Y2.set _ _).set _ _) (by decide) _ _).far (((Y2.set _ _).set _ _).set _ _) (by decide) _ _
      · rw [HDL.out]; exact (((hd7.far Y2 (by decide) _ _).far (Y2.set _ _) (by decide) _ _).far ((Y2.set _ _).set _ _) (by decide) _ _).far (((Y2.set _ _).set _ _).set _ _) (by decide) _ _
      · exact below_far (below_far (below_far (below_far (below_all hbx hb7) (by omega) _ _) (by omega) _ _) (by omega) _ _) (by omega) _ _
end Go.Proofs.Tg
end
section
/- The harness's sum of absolute values: the shorter one first; any two numbers. -/
namespace Go.Proofs.Tg
open Go.RowKit Go.Gr Go.Bn
set_option maxHeartbeats 4000000
set_option maxRecDepth 100000
theorem addswap (X Y : Option Addr) (cx cy : Nat) (us vs : List Nat) (w : World) (hX : Digs w X us) (hY : Digs w Y vs) (hu : Dig us) (hv : Dig vs) (hl1 : vs.length < us.length) (hn : us.length ≤ 400000) :
    Calls Tryz.prog 91 #[.slice Y vs.length cy, .slice X us.length cx] w (RetDg (val us + val vs) w) := by
  have hl : vs.length ≤ us.length := by omega
  have hd : decide ((vs.length : Int) < (us.length : Int)) = true := decide_eq_true (by omega)
  have hd' : decide (vs.length < us.length) = true := decide_eq_true hl1
  clear hl1
  have HU := Lib.hid hu
  have HV := Lib.hid hv
  have HX := Lib.hid hX
  have HY := Lib.hid hY
  have hmk := fun W => make_digs (us.length + 1) (by omega) W
  have hc1 : ((us.length + 1 : Nat) : Int) = (us.length : Int) + 1 := by omega
  rw [hc1] at hmk
  clear hc1
  clear hu hv hX hY
  go_enter Tryz.func91, Tryz.ntmps91
  go_upto_region 4 with (fail)
  obtain ⟨W, hW⟩ : ∃ W, w.alloc (.cells (madeCells #[.int .u32 0] (us.length + 1)) 137) = W := ⟨_, rfl⟩
  have G5 : Blk W w.heap.size 137 (darr ([] ++ List.replicate (us.length + 1 - 0) 0)) := by
    rw [← hW, List.nil_append, Nat.sub_zero, ← darr_made]
    exact Blk.new _ _ _
  have hbW : Below w.heap.size w W := by rw [← hW]; exact (Below.refl _ _).alloc (Nat.le_refl _) _
  rw [hW]
  clear hW hmk
  go_wp2
  go_loopw [6, 7] (fun s6 s7 wr => ∃ (k cr : Nat) (zs : List Nat), s6 = .int .u64 cr ∧ s7 = .int .i64 k ∧ k ≤ us.length ∧ Hid (AddSt us vs w.heap.size w wr k cr zs)) (fun _ s7 _ => us.length - (intOf s7).toNat)
  case atStart => exact ⟨0, 0, [], rfl, rfl, Nat.zero_le _, Lib.hid (AddSt.mk rfl (fun x hx => absurd hx (by simp)) (by omega) (by simp [val]) G5 hbW)⟩
  case round =>
    clear G5 hbW
    obtain ⟨wo, rfl⟩ : ∃ wo : World, wo = wr := ⟨_, rfl⟩
    obtain ⟨k, cr, zs, rfl, rfl, hk, HST⟩ := hrel
    have hcr := HST.out.le1
    by_cases hku : k < us.length
    · obtain ⟨ad, rfl, hcx⟩ := Digs.at (HX.out.keep HST.out.below) hku
      have hxB : us[k] < 4294967296 := HU.out us[k] (List.getElem_mem _)
      have HTX := Lib.hid (val_take_succ hku)
      generalize us[k] = x at *
      have q0 : (0 : Int) ≤ (k : Int) := by omega
      have q1 : (k : Int) < (us.length : Int) := by omega
      have q1' : (k : Int) < (us.length : Int) + 1 := by omega
      have q3 : ((k : Int)).toNat = k := by omega
      have w1 : IntKind.u64.wrap ((cr : Int) + (x : Int)) = ((cr + x : Nat) : Int) := by have := wrap_nat (cr + x) (by omega); simpa using this
      have c0 := HST.out.blk.cell k
      have f0 := HST.out.blk.frozen k
      have hzl : (zs ++ List.replicate (us.length + 1 - k) 0).length = us.length + 1 := by rw [List.length_append, List.length_replicate, HST.out.len]; omega
      rw [darr_at _ (by rw [hzl]; omega)] at c0
      generalize (zs ++ List.replicate (us.length + 1 - k) 0)[k]'(by rw [hzl]; omega) = old at c0
      by_cases hkv : k < vs.length
      · obtain ⟨bd, rfl, hcy⟩ := Digs.at (HY.out.keep HST.out.below) hkv
        have hyB : vs[k] < 4294967296 := HV.out vs[k] (List.getElem_mem _)
        have HTY := Lib.hid (val_take_succ hkv)
        generalize vs[k] = y at *
        have q2 : (k : Int) < (vs.length : Int) := by omega
        have d1 : decide ((k : Int) < (vs.length : Int)) = true := decide_eq_true q2
        have d1' : decide (k < vs.length) = true := decide_eq_true hkv
        have w2 : IntKind.u64.wrap (((cr + x : Nat) : Int) + (y : Int)) = ((cr + x + y : Nat) : Int) := by have := wrap_nat (cr + x + y) (by omega); simpa using this
        go_wp2
        go_roundw
        case rel =>
          have hs := HST.out.step hku (Nat.le_refl _) hxB hyB HTX.out HTY.out
          have e : (((cr + x + y) % B : Nat) : Int) = ((cr : Int) + (x : Int) + (y : Int)) % 4294967296 := by simp only [B]; omega
          rw [e] at hs
          exact ⟨k + 1, (cr + x + y) / B, _, by simp only [B]; congr 1, by go_num, by omega, Lib.hid hs⟩
        case measure => simp [intOf]; omega
      · have d1 : decide ((k : Int) < (vs.length : Int)) = false := decide_eq_false (by omega)
        have d1' : decide (k < vs.length) = false := decide_eq_false hkv
        have HTY : Hid (val (vs.take (k + 1)) = val (vs.take k) + B ^ k * 0) := Lib.hid (by rw [val_take_all (by omega), val_take_all (by omega)]; omega)
        go_wp2
        go_roundw
        case rel =>
          have hs := HST.out.step hku (Nat.le_refl _) hxB (y := 0) (by decide) HTX.out HTY.out
          have e : (((cr + x + 0) % B : Nat) : Int) = ((cr : Int) + (x : Int)) % 4294967296 := by simp only [B]; omega
          rw [e] at hs
          exact ⟨k + 1, (cr + x + 0) / B, _, by simp only [B]; congr 1, by go_num, by omega, Lib.hid hs⟩
        case measure => simp [intOf]; omega
    · obtain rfl : k = us.length := by omega
      have dd : decide (us.length < us.length) = false := by simp
      have hz1 : us.length + 1 - us.length = 1 := by omega
      have hb1 := HST.out.blk
      rw [hz1] at hb1
      have c0 := hb1.cell us.length
      have f0 := hb1.frozen us.length
      have hzl : (zs ++ List.replicate 1 0).length = us.length + 1 := by rw [List.length_append, List.length_replicate, HST.out.len]
      rw [darr_at _ (by rw [hzl]; omega)] at c0
      generalize (zs ++ List.replicate 1 0)[us.length]'(by rw [hzl]; omega) = old at c0
      have hsum := HST.out.sum
      rw [List.take_length, val_take_all hl] at hsum
      have q1' : (us.length : Int) < (us.length : Int) + 1 := by omega
      have hcm : (cr : Int) % 4294967296 = (cr : Int) := by omega
      have hB2 : Blk (wo.setCell ⟨w.heap.size, us.length, none⟩ (.int .u32 (cr : Nat))) w.heap.size 137 (darr (zs ++ [cr])) := by
        have := hb1.set us.length (.int .u32 (cr : Nat))
        rwa [darr_set, show zs ++ List.replicate 1 0 = zs ++ [0] from rfl, List.set_append_right _ _ (by rw [HST.out.len]; exact Nat.le_refl _), HST.out.len, Nat.sub_self, List.set_cons_zero] at this
      have hdig : Dig (zs ++ [cr]) := fun z hz => by
        rcases List.mem_append.1 hz with hz | hz
        · exact HST.out.dig z hz
        · rw [List.mem_singleton.1 hz]; simp only [B]; omega
      have hlen : (zs ++ [cr]).length = us.length + 1 := by rw [List.length_append, HST.out.len]; rfl
      have HT := Lib.hid (trim_dg (some ⟨w.heap.size, 0, none⟩) (us.length + 1) (zs ++ [cr]) _ (digs_of hB2) hdig (by omega) (by omega))
      have HVL : Hid (val (zs ++ [cr]) = val us + val vs) := Lib.hid (by rw [val_app, HST.out.len]; simp only [val, Nat.mul_zero, Nat.add_zero]; exact hsum)
      have hdl := dg_val_len hdig
      rw [hlen, HVL.out] at HT
      rw [hlen, HVL.out] at hdl
      clear hsum hzl hB2 hdig hlen hb1 hz1
      go_wp2_with (go_at_call 79; refine HT.out.mono ?_; rintro e w' ⟨rfl, rfl, hD⟩)
      go_ret
      exact ⟨_, _, rfl, ND.some hD hdl, below_far HST.out.below (Nat.le_refl _) _ _⟩
/-- The sum of two numbers. -/
theorem nadd_any (X Y : Option Addr) (cx cy a b : Nat) (w : World) (hX : Digs w X (dg a)) (hY : Digs w Y (dg b)) (ha : (dg a).length ≤ 400000) (hb : (dg b).length ≤ 400000) :
    Calls Tryz.prog 91 #[.slice X (dg a).length cx, .slice Y (dg b).length cy] w (RetDg (a + b) w) := by
  by_cases h : (dg b).length ≤ (dg a).length
  · have := addloop X Y cx cy (dg a) (dg b) w hX hY (dg_dig a) (dg_dig b) h ha
    rwa [val_dg, val_dg] at this
  · have := addswap Y X cy cx (dg b) (dg a) w hY hX (dg_dig b) (dg_dig a) (by omega) hb
    rwa [val_dg, val_dg, Nat.add_comm b a] at this
end Go.Proofs.Tg
end
section
/- The harness's difference of absolute values: subMag of any two numbers, the second not greater. -/
namespace Go.Proofs.Tg
open Go.RowKit Go.Gr Go.Bn
set_option maxHeartbeats 4000000
set_option maxRecDepth 100000
/-- The digits made so far and the borrow. -/
structure SubSt (us vs : List Nat) (g : Nat) (w0 wr : World) (k bo : Nat) (zs : List Nat) : Prop where
  len : zs.length = k
  dig : Dig zs
  le1 : bo ≤ 1
  sum : val zs + val (vs.take k) = val (us.take k) + B ^ k * bo
  blk : Blk wr g 137 (darr (zs ++ List.replicate (us.length - k) 0))
  below : Below w0.heap.size w0 wr
theorem SubSt.step {us vs : List Nat} {g : Nat} {w0 wo : World} {k bo : Nat} {zs : List Nat} (h : SubSt us vs g w0 wo k bo zs) (hk : k < us.length) (hg : w0.heap.size ≤ g) {x y z b2 : Nat} (hz : z < B) (hb2 : b2 ≤ 1)
    (hs : z + y + bo = x + B * b2) (h1 : val (us.take (k + 1)) = val (us.take k) + B ^ k * x) (h2 : val (vs.take (k + 1)) = val (vs.take k) + B ^ k * y) :
    SubSt us vs g w0 (wo.setCell ⟨g, k, none⟩ (.int .u32 ((z : Nat) : Int))) (k + 1) b2 (zs ++ [z]) := by
  refine ⟨by rw [List.length_append, h.len]; rfl, fun q hq => ?_, hb2, ?_, ?_, below_far h.below hg _ _⟩
  · rcases List.mem_append.1 hq with hq | hq
    · exact h.dig q hq
    · rw [List.mem_singleton.1 hq]; exact hz
  · rw [val_app, h.len, h1, h2, Nat.pow_succ, Nat.mul_assoc]
    simp only [val, Nat.mul_zero, Nat.add_zero]
    have e : B ^ k * z + B ^ k * y + B ^ k * bo = B ^ k * x + B ^ k * (B * b2) := by rw [← Nat.mul_add, ← Nat.mul_add, ← Nat.mul_add, hs]
    have := h.sum
    omega
  · have := h.blk.set k (.int .u32 ((z : Nat) : Int))
    rwa [darr_set, zs_set h.len (by omega)] at this
theorem SubSt.done {us vs : List Nat} {g : Nat} {w0 wo : World} {bo : Nat} {zs : List Nat} (h : SubSt us vs g w0 wo us.length bo zs) (hle : val vs ≤ val us) (hl : vs.length ≤ us.length) : val zs = val us - val vs := by
  have h1 := h.sum
  rw [val_take_all (Nat.le_refl _), val_take_all hl] at h1
  have h2 := val_lt h.dig
  rw [h.len] at h2
  have h3 := h.le1
  rcases Nat.lt_or_ge bo 1 with h4 | h4
  · obtain rfl : bo = 0 := by omega
    omega
  · obtain rfl : bo = 1 := by omega
    omega
theorem sub_word {x y bo d z b2 : Nat} (hx : x < 4294967296) (hy : y < 4294967296) (hb : bo ≤ 1) (hd : (x + 18446744073709551616 - (y + bo)) % 18446744073709551616 = d) (hz : d % 4294967296 = z) (h2 : d / 4294967296 % 2 = b2) : z < B ∧ b2 ≤ 1 ∧ z + y + bo = x + B * b2 := by
  simp only [B] at *
  omega
theorem nsub_loop (X Y : Option Addr) (cx cy : Nat) (us vs : List Nat) (w : World) (hX : Digs w X us) (hY : Digs w Y vs) (hu : Dig us) (hv : Dig vs) (hl : vs.length ≤ us.length) (hle : val vs ≤ val us) (hn : us.length ≤ 400000) :
    Calls Tryz.prog 93 #[.slice X us.length cx, .slice Y vs.length cy] w (RetDg (val us - val vs) w) := by
  have HU := Lib.hid hu
  have HV := Lib.hid hv
  have HX := Lib.hid hX
  have HY := Lib.hid hY
  have HLE := Lib.hid hle
  have hmk := fun W => make_digs us.length (by omega) W
  clear hu hv hX hY hle
  go_enter Tryz.func93, Tryz.ntmps93
  go_upto_region 2 with (fail)
  obtain ⟨W, hW⟩ : ∃ W, w.alloc (.cells (madeCells #[.int .u32 0] us.length) 137) = W := ⟨_, rfl⟩
  have G5 : Blk W w.heap.size 137 (darr ([] ++ List.replicate (us.length - 0) 0)) := by
    rw [← hW, List.nil_append, Nat.sub_zero, ← darr_made]
    exact Blk.new _ _ _
  have hbW : Below w.heap.size w W := by rw [← hW]; exact (Below.refl _ _).alloc (Nat.le_refl _) _
  rw [hW]
  clear hW hmk
  go_wp2
  go_loopw [6, 7] (fun s6 s7 wr => ∃ (k bo : Nat) (zs : List Nat), s6 = .int .u64 bo ∧ s7 = .int .i64 k ∧ k ≤ us.length ∧ Hid (SubSt us vs w.heap.size w wr k bo zs)) (fun _ s7 _ => us.length - (intOf s7).toNat)
  case atStart => exact ⟨0, 0, [], rfl, rfl, Nat.zero_le _, Lib.hid (SubSt.mk rfl (fun x hx => absurd hx (by simp)) (by omega) (by simp [val]) G5 hbW)⟩
  case round =>
    clear G5 hbW
    obtain ⟨wo, rfl⟩ : ∃ wo : World, wo = wr := ⟨_, rfl⟩
    obtain ⟨k, bo, zs, rfl, rfl, hk, HST⟩ := hrel
    have hbo := HST.out.le1
    by_cases hku : k < us.length
    · obtain ⟨ad, rfl, hcx⟩ := Digs.at (HX.out.keep HST.out.below) hku
      have hxB : us[k] < 4294967296 := HU.out us[k] (List.getElem_mem _)
      have HTX := Lib.hid (val_take_succ hku)
      generalize us[k] = x at *
      have q0 : (0 : Int) ≤ (k : Int) := by omega
      have q1 : (k : Int) < (us.length : Int) := by omega
      have q3 : ((k : Int)).toNat = k := by omega
      have c0 := HST.out.blk.cell k
      have f0 := HST.out.blk.frozen k
      have hzl : (zs ++ List.replicate (us.length - k) 0).length = us.length := by rw [List.length_append, List.length_replicate, HST.out.len]; omega
      rw [darr_at _ (by rw [hzl]; omega)] at c0
      generalize (zs ++ List.replicate (us.length - k) 0)[k]'(by rw [hzl]; omega) = old at c0
      obtain ⟨d1, hd1⟩ : ∃ d1, (x + 18446744073709551616 - bo) % 18446744073709551616 = d1 := ⟨_, rfl⟩
      have w1 : IntKind.u64.wrap ((x : Int) - (bo : Int)) = (d1 : Int) := by rw [IntKind.wrap_u64]; omega
      by_cases hkv : k < vs.length
      · obtain ⟨bd, rfl, hcy⟩ := Digs.at (HY.out.keep HST.out.below) hkv
        have hyB : vs[k] < 4294967296 := HV.out vs[k] (List.getElem_mem _)
        have HTY := Lib.hid (val_take_succ hkv)
        generalize vs[k] = y at *
        have q2 : (k : Int) < (vs.length : Int) := by omega
        have e1 : decide ((k : Int) < (vs.length : Int)) = true := decide_eq_true q2
        have e1' : decide (k < vs.length) = true := decide_eq_true hkv
        obtain ⟨d, hd⟩ : ∃ d, (x + 18446744073709551616 - (y + bo)) % 18446744073709551616 = d := ⟨_, rfl⟩
        have w2 : IntKind.u64.wrap ((d1 : Int) - (y : Int)) = (d : Int) := by rw [IntKind.wrap_u64]; omega
        have HS := Lib.hid (sub_word hxB hyB hbo hd rfl rfl)
        have hdB : d < 18446744073709551616 := by omega
        have b1 : bits BinOp.and IntKind.u64 ((d : Int) / 4294967296) 1 = ((d / 4294967296 % 2 : Nat) : Int) := by
          have := u64_and_nat (d / 4294967296) 1 (by omega) (by omega)
          rw [show d / 4294967296 &&& 1 = d / 4294967296 % 2 from Nat.and_two_pow_sub_one_eq_mod _ 1] at this
          rw [← this]; congr 1
        clear hd hd1
        go_wp2
        go_roundw
        case rel =>
          have hs := HST.out.step hku (Nat.le_refl _) HS.out.1 HS.out.2.1 HS.out.2.2 HTX.out HTY.out
          exact ⟨k + 1, d / 4294967296 % 2, _, by simp, by go_num, by omega, Lib.hid hs⟩
        case measure => simp [intOf]; omega
      · have e1 : decide ((k : Int) < (vs.length : Int)) = false := decide_eq_false (by omega)
        have e1' : decide (k < vs.length) = false := decide_eq_false hkv
        have HTY : Hid (val (vs.take (k + 1)) = val (vs.take k) + B ^ k * 0) := Lib.hid (by rw [val_take_all (by omega), val_take_all (by omega)]; omega)
        have HS := Lib.hid (sub_word (y := 0) hxB (by decide) hbo (d := d1) (by rw [Nat.zero_add]; exact hd1) rfl rfl)
        have hdB : d1 < 18446744073709551616 := by omega
        have b1 : bits BinOp.and IntKind.u64 ((d1 : Int) / 4294967296) 1 = ((d1 / 4294967296 % 2 : Nat) : Int) := by
          have := u64_and_nat (d1 / 4294967296) 1 (by omega) (by omega)
          rw [show d1 / 4294967296 &&& 1 = d1 / 4294967296 % 2 from Nat.and_two_pow_sub_one_eq_mod _ 1] at this
          rw [← this]; congr 1
        clear hd1
        go_wp2
        go_roundw
        case rel =>
          have hs := HST.out.step hku (Nat.le_refl _) HS.out.1 HS.out.2.1 HS.out.2.2 HTX.out HTY.out
          exact ⟨k + 1, d1 / 4294967296 % 2, _, by simp, by go_num, by omega, Lib.hid hs⟩
        case measure => simp [intOf]; omega
    · obtain rfl : k = us.length := by omega
      have hB2 := HST.out.blk
      rw [Nat.sub_self, List.replicate_zero, List.append_nil] at hB2
      have hlen : zs.length = us.length := HST.out.len
      have HT := Lib.hid (trim_dg (some ⟨w.heap.size, 0, none⟩) us.length zs wo (digs_of hB2) HST.out.dig (by omega) (by omega))
      have HVL : Hid (val zs = val us - val vs) := Lib.hid (HST.out.done HLE.out hl)
      have hdl := dg_val_len HST.out.dig
      rw [hlen, HVL.out] at HT
      rw [hlen, HVL.out] at hdl
      clear hB2 hlen
      go_wp2_with (go_at_call 79; refine HT.out.mono ?_; rintro e w' ⟨rfl, rfl, hD⟩)
      go_ret
      exact ⟨_, _, rfl, ND.some hD hdl, HST.out.below⟩
theorem nsub_any (X Y : Option Addr) (cx cy a b : Nat) (w : World) (hX : Digs w X (dg a)) (hY : Digs w Y (dg b)) (hab : b ≤ a) (ha : (dg a).length ≤ 400000) :
    Calls Tryz.prog 93 #[.slice X (dg a).length cx, .slice Y (dg b).length cy] w (RetDg (a - b) w) := by
  have hlen : (dg b).length ≤ (dg a).length := by
    rcases Nat.lt_or_ge (dg a).length (dg b).length with h | h
    · have := dg_lt_of_len h; omega
    · exact h
  have := nsub_loop X Y cx cy (dg a) (dg b) w hX hY (dg_dig a) (dg_dig b) hlen (by rw [val_dg, val_dg]; exact hab) ha
  rwa [val_dg, val_dg] at this
end Go.Proofs.Tg
end
