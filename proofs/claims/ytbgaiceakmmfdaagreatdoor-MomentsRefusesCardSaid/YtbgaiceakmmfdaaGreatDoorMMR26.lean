/- Parts of the proof: JG1. -/
import Derived.Test.YtbgaiceakmmfdaaGreatDoorMMR0
import Derived.Test.YtbgaiceakmmfdaaGreatDoorMMR23
import Derived.Test.YtbgaiceakmmfdaaGreatDoorMMR24
import Derived.Test.YtbgaiceakmmfdaaGreatDoorMMR25
set_option maxHeartbeats 64000000
set_option maxRecDepth 100000
namespace Go.Proofs.Tg.Iw
section
open Go.RowKit Go.Bw Go.Gr Go.Proofs.Tg Go.Rq
theorem dec_len {n : Nat} (h : (dg n).length ≤ 79) : (Lib.decDigits n).length ≤ 1580 := by
 by_cases h0 : n = 0
 ·subst h0; rw [Go.Qn.dec_zero]; decide
 ·have h1 : n < B ^ (dg n).length := val_lt_dg n
  have h2 : B ^ (dg n).length ≤ (10 ^ 20) ^ (dg n).length := Nat.pow_le_pow_left (by decide) _; rw [← Nat.pow_mul] at h2; have h3 := Dt.dig0_len (Nat.lt_of_lt_of_le h1 h2); unfold Dt.dig0 at h3; rw [if_neg h0] at h3; omega
def RetRd (q : Rat) (w : World) (e : Ending) (w' : World) : Prop := ∃ N cn D cd, e = .returned (.tuple #[rval q N cn D cd, .bool true]) ∧ RNum w' q N cn D cd ∧ Below w.heap.size w w'
theorem rz_hi {V : World} {g : Nat} {t : TypeId} {a b c d : Value} (h : Blk V g t #[a, b, c, d]) (u v : Value) : Blk ((V.setCell ⟨g, 2, none⟩ u).setCell ⟨g, 3, none⟩ v) g t #[a, b, u, v] := by
 have := (h.set 2 u).set 3 v
 simpa using this
theorem rz_lo {V : World} {g : Nat} {t : TypeId} {a b c d : Value} (h : Blk V g t #[a, b, c, d]) (u v : Value) : Blk ((V.setCell ⟨g, 0, none⟩ u).setCell ⟨g, 1, none⟩ v) g t #[u, v, c, d] := by
 have := (h.set 0 u).set 1 v
 simpa using this
theorem read_pw (q : Rat) (w : World) (bn : (dg q.num.natAbs).length ≤ 79) (bd : (dg q.den).length ≤ 79) (hneg : ¬ q.num < 0) (hden : q.den = 1) (hT : Tab w) :
    Calls Tryz.prog 44 #[.string (qtx q)] w (RetRd q w) := by
  have hsg : decide (q.num < 0) = false := dF hneg; have ln1 := dec_len bn; have ln2 := dec_len bd
  have htl : (Go.Qn.text (decide (q.num < 0)) q.num.natAbs q.den).length ≤ 4000 := by
   unfold Go.Qn.text; simp only [List.length_append]
   split <;> (try split) <;> simp <;> omega
  have HSP : Hid (∀ V, Calls Tryz.prog 37 #[.string (qtx q)] V fun e w' => e = .returned (.tuple #[.agg #[.bool false, .string (bs (Lib.decDigits q.num.natAbs)), .string (bs [])], .bool true]) ∧ Below V.heap.size V w') := zh (fun V => by
   have := split_textL (decide (q.num < 0)) q.num.natAbs q.den V (canon q) htl; unfold RetSplit3 at this; rw [hsg, if_pos hden] at this; unfold qtx; rw [hsg]
   exact this)
  obtain ⟨ln, hln⟩ := eqx ((dg q.num.natAbs).length); obtain ⟨ld, hld⟩ := eqx ((dg q.den).length)
  have HPN : Hid (∀ V, Calls Tryz.prog 38 #[.string (bs (Lib.decDigits q.num.natAbs))] V fun e w' => ∃ R c, e = .returned (.agg #[.bool false, .slice R ln c]) ∧ NW w' R c q.num.natAbs ∧ Below V.heap.size V w') := zh (fun V => by
   have := parse_long (bs (Lib.decDigits q.num.natAbs)) V (by rw [bs_size]; omega) (by rw [bs_data]; exact Go.Qn.dec_allD _); rw [bs_data, Go.Qn.val_dec] at this; unfold RetI at this; rw [hln] at this
   exact this)
  obtain ⟨Q, hQ⟩ := eqx (RetRd q w); obtain ⟨W, hW⟩ := eqx (w.alloc (.cells #[.bool false, .slice none 0 0, .bool false, .slice none 0 0] 70))
  have B0 : Blk W w.heap.size 70 #[.bool false, .slice none 0 0, .bool false, .slice none 0 0] := by rw [← hW]; exact Blk.new _ _ _
  have hbW : Below w.heap.size w W := by rw [← hW]; exact bal
  have HB0 := zh B0; have HWW := zh hW; have HBW := zh hbW
  have HFIN : Hid (∀ V R c RD cD, Below W.heap.size W V → NW V R c q.num.natAbs → NW V RD cD (dnz q.den) → Q (.returned (.tuple #[.agg #[.bool false, .slice R ln c, .bool false, .slice none 0 0], .bool true])) ((((V.setCell ⟨w.heap.size, 0, none⟩ (.bool false)).setCell ⟨w.heap.size, 1, none⟩ (.slice R ln c)).setCell ⟨w.heap.size, 2, none⟩ (.bool false)).setCell ⟨w.heap.size, 3, none⟩ (.slice none 0 0))) := zh (fun V R c RD cD hV hR hD => by
   have Y := HB0.out.keep hV HB0.out.lt; rw [← hQ]; refine ⟨R, c, none, 0, ?_, ⟨nw_four hR (hR.offB Y nil4) _ _ _ _, by rw [hden, dnz_one]; exact NW.zero _ _ _⟩, ?_⟩
   ·unfold rval; rw [hsg, hln, hden, dnz_one, dg_zero]; rfl
   ·exact below_far (below_far (below_far (below_far (below_all hbW hV) (by omega) _ _) (by omega) _ _) (by omega) _ _) (by omega) _ _)
  have HDZ : Hid (dnz q.den = 0) := zh (by rw [hden]; exact dnz_one); rw [hQ]

  obtain ⟨SN, hSN⟩ := eqx (bs (Lib.decDigits q.num.natAbs)); obtain ⟨S0, hS0⟩ := eqx (qtx q); rw [hSN] at HSP HPN; rw [hS0] at HSP ⊢; have hS0e : bs [] = ByteArray.empty := rfl; rw [hS0e] at HSP; obtain ⟨r0, r1, r2, r3, _, _, _, _⟩ := B0.four; clear hQ hW hbW B0 hT bn bd ln1 ln2 htl hln hld hneg hden hsg hSN hS0 hS0e; go_enter Tryz.func44, Tryz.ntmps44; go_upto_region 1 with (fail); rw [HWW.out]
  go_upto_region 2 with (go_at_call 37; refine (HSP.out _).mono ?_; rintro e w1 ⟨rfl, hb1⟩; have HB1 := zh hb1; clear hb1)
  obtain ⟨gf, hgf⟩ := eqx (w1.heap.size); obtain ⟨w2, hw2⟩ := eqx (w1.alloc (.cells #[.bool false, .string SN, .string ByteArray.empty] 83))
  have hal : Below w1.heap.size w1 w2 := by rw [← hw2]; exact bal
  have Bf : Blk w2 gf 83 #[.bool false, .string SN, .string ByteArray.empty] := by rw [← hw2, ← hgf]; exact Blk.new _ _ _
  have HBf := zh Bf; have HB2 := zh (below_all HB1.out hal); rw [hw2, hgf]; clear hw2 hgf hal HB1 HSP; obtain ⟨f0, f1, f2, _, _, _⟩ := Bf.three; clear Bf
  go_upto_region 5 with (go_at_call 38; refine (HPN.out _).mono ?_; rintro e w3 ⟨RN, cN, rfl, hRN, hb3⟩; have HB3 := zh hb3; have HRN := zh hRN; clear hb3 hRN)
  obtain ⟨g6, hg6⟩ := eqx (w3.heap.size); obtain ⟨w4, hw4⟩ := eqx (w3.alloc (.cells #[.bool false, .slice RN ln cN, .bool false, .slice none 0 0] 70))
  have hal : Below w3.heap.size w3 w4 := by rw [← hw4]; exact bal
  have B6 : Blk w4 g6 70 #[.bool false, .slice RN ln cN, .bool false, .slice none 0 0] := by rw [← hw4, ← hg6]; exact Blk.new _ _ _
  have hw26 : w2.heap.size ≤ g6 := by rw [← hg6]; exact HB3.out.size
  have HB4 := zh (below_all HB3.out hal); have HN4 := zh (HRN.out.keep hal); have HB6 := zh B6; rw [hw4, hg6]; clear hw4 hg6 hal HB3 HRN HPN B6 f0 f1 f2; obtain ⟨f0, f1, f2, _, _, _⟩ := (HBf.out.keep HB4.out HBf.out.lt).three; obtain ⟨x0, x1, x2, x3, x4, x5, x6, x7⟩ := HB6.out.four; have hfl := HBf.out.lt; go_upto_region 7 with (fail); obtain ⟨wA, rfl⟩ : ∃ x, x = w4 := ⟨_, rfl⟩; have C6 := HB6.out; have HNA := HN4; have HBA := HB4; have HC6 := zh C6; clear C6 x0 x1 x2 x3 x4 x5 x6 x7 f0 f1 f2; obtain ⟨f0, f1, f2, _, _, _⟩ := (HBf.out.keep HBA.out HBf.out.lt).three; obtain ⟨x0, x1, x2, x3, x4, x5, x6, x7⟩ := HC6.out.four; have HWA := zh (below_all HB2.out HBA.out); have Y0 := HB0.out.keep HWA.out HB0.out.lt; have HEND := zh (HFIN.out wA RN cN none 0 HWA.out HNA.out (by rw [HDZ.out]; exact NW.zero _ _ _)); have YT := rz_four Y0 (.bool false) (.slice RN ln cN) (.bool false) (.slice none 0 0)
  obtain ⟨t0, t1, t2, t3, t4, t5, t6, t7⟩ := Y0.four; go_wp2; obtain ⟨t0, t1, t2, t3, _, _, _, _⟩ := YT.four; exact bodyPost_ret (v := .tuple #[.agg #[.bool false, .slice RN ln cN, .bool false, .slice none 0 0], .bool true]) (by simp [results, Tryz.results44, go_sem, t0, t1, t2, t3]) rfl HEND.out
theorem read_nw (q : Rat) (w : World) (bn : (dg q.num.natAbs).length ≤ 79) (bd : (dg q.den).length ≤ 79) (hneg : q.num < 0) (hden : q.den = 1) (hT : Tab w) :
    Calls Tryz.prog 44 #[.string (qtx q)] w (RetRd q w) := by
  have hsg : decide (q.num < 0) = true := dT hneg; have ln1 := dec_len bn; have ln2 := dec_len bd
  have htl : (Go.Qn.text (decide (q.num < 0)) q.num.natAbs q.den).length ≤ 4000 := by
   unfold Go.Qn.text; simp only [List.length_append]
   split <;> (try split) <;> simp <;> omega
  have HSP : Hid (∀ V, Calls Tryz.prog 37 #[.string (qtx q)] V fun e w' => e = .returned (.tuple #[.agg #[.bool true, .string (bs (Lib.decDigits q.num.natAbs)), .string (bs [])], .bool true]) ∧ Below V.heap.size V w') := zh (fun V => by
   have := split_textL (decide (q.num < 0)) q.num.natAbs q.den V (canon q) htl; unfold RetSplit3 at this; rw [hsg, if_pos hden] at this; unfold qtx; rw [hsg]
   exact this)
  obtain ⟨ln, hln⟩ := eqx ((dg q.num.natAbs).length); obtain ⟨ld, hld⟩ := eqx ((dg q.den).length)
  have HPN : Hid (∀ V, Calls Tryz.prog 38 #[.string (bs (Lib.decDigits q.num.natAbs))] V fun e w' => ∃ R c, e = .returned (.agg #[.bool false, .slice R ln c]) ∧ NW w' R c q.num.natAbs ∧ Below V.heap.size V w') := zh (fun V => by
   have := parse_long (bs (Lib.decDigits q.num.natAbs)) V (by rw [bs_size]; omega) (by rw [bs_data]; exact Go.Qn.dec_allD _); rw [bs_data, Go.Qn.val_dec] at this; unfold RetI at this; rw [hln] at this
   exact this)
  have HNG : Hid (∀ V A c, Calls Tryz.prog 71 #[.agg #[.bool false, .slice A ln c]] V fun e w' => e = .returned (.agg #[.bool true, .slice A ln c]) ∧ Below V.heap.size V w') := zh (fun V A c => ineg_w false A ln c V true (by
   have := (dg_len_pos (u := q.num.natAbs)).2 (by omega); rw [hln] at this
   simp; omega))
  obtain ⟨Q, hQ⟩ := eqx (RetRd q w); obtain ⟨W, hW⟩ := eqx (w.alloc (.cells #[.bool false, .slice none 0 0, .bool false, .slice none 0 0] 70))
  have B0 : Blk W w.heap.size 70 #[.bool false, .slice none 0 0, .bool false, .slice none 0 0] := by rw [← hW]; exact Blk.new _ _ _
  have hbW : Below w.heap.size w W := by rw [← hW]; exact bal
  have HB0 := zh B0; have HWW := zh hW; have HBW := zh hbW
  have HFIN : Hid (∀ V R c RD cD, Below W.heap.size W V → NW V R c q.num.natAbs → NW V RD cD (dnz q.den) → Q (.returned (.tuple #[.agg #[.bool true, .slice R ln c, .bool false, .slice none 0 0], .bool true])) ((((V.setCell ⟨w.heap.size, 0, none⟩ (.bool true)).setCell ⟨w.heap.size, 1, none⟩ (.slice R ln c)).setCell ⟨w.heap.size, 2, none⟩ (.bool false)).setCell ⟨w.heap.size, 3, none⟩ (.slice none 0 0))) := zh (fun V R c RD cD hV hR hD => by
   have Y := HB0.out.keep hV HB0.out.lt; rw [← hQ]; refine ⟨R, c, none, 0, ?_, ⟨nw_four hR (hR.offB Y nil4) _ _ _ _, by rw [hden, dnz_one]; exact NW.zero _ _ _⟩, ?_⟩
   ·unfold rval; rw [hsg, hln, hden, dnz_one, dg_zero]; rfl
   ·exact below_far (below_far (below_far (below_far (below_all hbW hV) (by omega) _ _) (by omega) _ _) (by omega) _ _) (by omega) _ _)
  have HDZ : Hid (dnz q.den = 0) := zh (by rw [hden]; exact dnz_one); rw [hQ]

  obtain ⟨SN, hSN⟩ := eqx (bs (Lib.decDigits q.num.natAbs)); obtain ⟨S0, hS0⟩ := eqx (qtx q); rw [hSN] at HSP HPN; rw [hS0] at HSP ⊢; have hS0e : bs [] = ByteArray.empty := rfl; rw [hS0e] at HSP; obtain ⟨r0, r1, r2, r3, _, _, _, _⟩ := B0.four; clear hQ hW hbW B0 hT bn bd ln1 ln2 htl hln hld hneg hden hsg hSN hS0 hS0e; go_enter Tryz.func44, Tryz.ntmps44; go_upto_region 1 with (fail); rw [HWW.out]
  go_upto_region 2 with (go_at_call 37; refine (HSP.out _).mono ?_; rintro e w1 ⟨rfl, hb1⟩; have HB1 := zh hb1; clear hb1)
  obtain ⟨gf, hgf⟩ := eqx (w1.heap.size); obtain ⟨w2, hw2⟩ := eqx (w1.alloc (.cells #[.bool true, .string SN, .string ByteArray.empty] 83))
  have hal : Below w1.heap.size w1 w2 := by rw [← hw2]; exact bal
  have Bf : Blk w2 gf 83 #[.bool true, .string SN, .string ByteArray.empty] := by rw [← hw2, ← hgf]; exact Blk.new _ _ _
  have HBf := zh Bf; have HB2 := zh (below_all HB1.out hal); rw [hw2, hgf]; clear hw2 hgf hal HB1 HSP; obtain ⟨f0, f1, f2, _, _, _⟩ := Bf.three; clear Bf
  go_upto_region 5 with (go_at_call 38; refine (HPN.out _).mono ?_; rintro e w3 ⟨RN, cN, rfl, hRN, hb3⟩; have HB3 := zh hb3; have HRN := zh hRN; clear hb3 hRN)
  obtain ⟨g6, hg6⟩ := eqx (w3.heap.size); obtain ⟨w4, hw4⟩ := eqx (w3.alloc (.cells #[.bool false, .slice RN ln cN, .bool false, .slice none 0 0] 70))
  have hal : Below w3.heap.size w3 w4 := by rw [← hw4]; exact bal
  have B6 : Blk w4 g6 70 #[.bool false, .slice RN ln cN, .bool false, .slice none 0 0] := by rw [← hw4, ← hg6]; exact Blk.new _ _ _
  have hw26 : w2.heap.size ≤ g6 := by rw [← hg6]; exact HB3.out.size
  have HB4 := zh (below_all HB3.out hal); have HN4 := zh (HRN.out.keep hal); have HB6 := zh B6; rw [hw4, hg6]; clear hw4 hg6 hal HB3 HRN HPN B6 f0 f1 f2; obtain ⟨f0, f1, f2, _, _, _⟩ := (HBf.out.keep HB4.out HBf.out.lt).three; obtain ⟨x0, x1, x2, x3, x4, x5, x6, x7⟩ := HB6.out.four; have hfl := HBf.out.lt
  go_upto_region 7 with (go_at_call 71; refine (HNG.out _ _ _).mono ?_; rintro e w5 ⟨rfl, hb5⟩; have HB5 := zh hb5; obtain ⟨x0, x1, x2, x3, x4, x5, x6, x7⟩ := (HB6.out.keep hb5 HB6.out.lt).four; clear hb5)
  obtain ⟨wA, hwA⟩ := eqx ((w5.setCell ⟨g6, 0, none⟩ (.bool true)).setCell ⟨g6, 1, none⟩ (.slice RN ln cN)); have Y6 := HB6.out.keep HB5.out HB6.out.lt
  have C6 : Blk wA g6 70 #[.bool true, .slice RN ln cN, .bool false, .slice none 0 0] := by rw [← hwA]; exact rz_lo Y6 _ _
  have hN5 := HN4.out.keep HB5.out; have hoff : Off RN (dg q.num.natAbs).length g6 := hN5.offB Y6 (by simp); have HNA : Hid (NW wA RN cN q.num.natAbs) := zh (by rw [← hwA]; exact (hN5.far hoff _ _).far hoff _ _); have HBA : Hid (Below w2.heap.size w2 wA) := zh (by rw [← hwA]; exact below_far (below_far (below_all HB4.out HB5.out) hw26 _ _) hw26 _ _); rw [hwA]; clear hwA hN5 hoff Y6; have HC6 := zh C6; clear C6 x0 x1 x2 x3 x4 x5 x6 x7 f0 f1 f2; obtain ⟨f0, f1, f2, _, _, _⟩ := (HBf.out.keep HBA.out HBf.out.lt).three; obtain ⟨x0, x1, x2, x3, x4, x5, x6, x7⟩ := HC6.out.four; have HWA := zh (below_all HB2.out HBA.out); have Y0 := HB0.out.keep HWA.out HB0.out.lt; have HEND := zh (HFIN.out wA RN cN none 0 HWA.out HNA.out (by rw [HDZ.out]; exact NW.zero _ _ _)); have YT := rz_four Y0 (.bool true) (.slice RN ln cN) (.bool false) (.slice none 0 0); obtain ⟨t0, t1, t2, t3, t4, t5, t6, t7⟩ := Y0.four
  go_wp2; obtain ⟨t0, t1, t2, t3, _, _, _, _⟩ := YT.four; exact bodyPost_ret (v := .tuple #[.agg #[.bool true, .slice RN ln cN, .bool false, .slice none 0 0], .bool true]) (by simp [results, Tryz.results44, go_sem, t0, t1, t2, t3]) rfl HEND.out
theorem read_pf (q : Rat) (w : World) (bn : (dg q.num.natAbs).length ≤ 79) (bd : (dg q.den).length ≤ 79) (hneg : ¬ q.num < 0) (hden : q.den ≠ 1) (hT : Tab w) :
    Calls Tryz.prog 44 #[.string (qtx q)] w (RetRd q w) := by
  have hsg : decide (q.num < 0) = false := dF hneg; have ln1 := dec_len bn; have ln2 := dec_len bd
  have htl : (Go.Qn.text (decide (q.num < 0)) q.num.natAbs q.den).length ≤ 4000 := by
   unfold Go.Qn.text; simp only [List.length_append]
   split <;> (try split) <;> simp <;> omega
  have HSP : Hid (∀ V, Calls Tryz.prog 37 #[.string (qtx q)] V fun e w' => e = .returned (.tuple #[.agg #[.bool false, .string (bs (Lib.decDigits q.num.natAbs)), .string (bs (Lib.decDigits q.den))], .bool true]) ∧ Below V.heap.size V w') := zh (fun V => by
   have := split_textL (decide (q.num < 0)) q.num.natAbs q.den V (canon q) htl; unfold RetSplit3 at this; rw [hsg, if_neg hden] at this; unfold qtx; rw [hsg]
   exact this)
  obtain ⟨ln, hln⟩ := eqx ((dg q.num.natAbs).length); obtain ⟨ld, hld⟩ := eqx ((dg q.den).length)
  have HPN : Hid (∀ V, Calls Tryz.prog 38 #[.string (bs (Lib.decDigits q.num.natAbs))] V fun e w' => ∃ R c, e = .returned (.agg #[.bool false, .slice R ln c]) ∧ NW w' R c q.num.natAbs ∧ Below V.heap.size V w') := zh (fun V => by
   have := parse_long (bs (Lib.decDigits q.num.natAbs)) V (by rw [bs_size]; omega) (by rw [bs_data]; exact Go.Qn.dec_allD _); rw [bs_data, Go.Qn.val_dec] at this; unfold RetI at this; rw [hln] at this
   exact this)
  have HPD : Hid (∀ V, Calls Tryz.prog 38 #[.string (bs (Lib.decDigits q.den))] V fun e w' => ∃ R c, e = .returned (.agg #[.bool false, .slice R ld c]) ∧ NW w' R c q.den ∧ Below V.heap.size V w') := zh (fun V => by
   have := parse_long (bs (Lib.decDigits q.den)) V (by rw [bs_size]; omega) (by rw [bs_data]; exact Go.Qn.dec_allD _); rw [bs_data, Go.Qn.val_dec] at this; unfold RetI at this; rw [hld] at this
   exact this)
  obtain ⟨l1, hl1⟩ := eqx ((dg 1).length)
  have HGC : Hid (∀ V A a B b, Below w.heap.size w V → NW V A a q.num.natAbs → NW V B b q.den → Calls Tryz.prog 39 #[.agg #[.bool false, .slice A ln a], .agg #[.bool false, .slice B ld b]] V fun e w' => ∃ R c, e = .returned (.agg #[.bool false, .slice R l1 c]) ∧ NW w' R c 1 ∧ Below V.heap.size V w') := zh (fun V A a B b hV hA hB => by
   have := igcd_w A B a b q.num.natAbs q.den false false V hA hB (by omega) (by omega) (.inl (by omega)) (hT.below hV hT.1); rw [q.reduced] at this; unfold RetI at this; rw [hln, hld, hl1] at this
   exact this)
  have HIO : Hid (∀ V A a, NW V A a 1 → Calls Tryz.prog 40 #[.agg #[.bool false, .slice A l1 a]] V fun e w' => e = .returned (.bool true) ∧ Below V.heap.size V w') := zh (fun V A a hA => by
   have := isone_w A a 1 V hA; rw [hl1] at this
   exact this)
  obtain ⟨Q, hQ⟩ := eqx (RetRd q w); obtain ⟨W, hW⟩ := eqx (w.alloc (.cells #[.bool false, .slice none 0 0, .bool false, .slice none 0 0] 70))
  have B0 : Blk W w.heap.size 70 #[.bool false, .slice none 0 0, .bool false, .slice none 0 0] := by rw [← hW]; exact Blk.new _ _ _
  have hbW : Below w.heap.size w W := by rw [← hW]; exact bal
  have HB0 := zh B0; have HWW := zh hW; have HBW := zh hbW
  have HFIN : Hid (∀ V R c RD cD, Below W.heap.size W V → NW V R c q.num.natAbs → NW V RD cD (dnz q.den) → Q (.returned (.tuple #[.agg #[.bool false, .slice R ln c, .bool false, .slice RD ld cD], .bool true])) ((((V.setCell ⟨w.heap.size, 0, none⟩ (.bool false)).setCell ⟨w.heap.size, 1, none⟩ (.slice R ln c)).setCell ⟨w.heap.size, 2, none⟩ (.bool false)).setCell ⟨w.heap.size, 3, none⟩ (.slice RD ld cD))) := zh (fun V R c RD cD hV hR hD => by
   have Y := HB0.out.keep hV HB0.out.lt; rw [← hQ]; refine ⟨R, c, RD, cD, ?_, ⟨nw_four hR (hR.offB Y nil4) _ _ _ _, nw_four hD (hD.offB Y nil4) _ _ _ _⟩, ?_⟩
   ·unfold rval; rw [hsg, hln, dnz_pos hden, hld]
   ·exact below_far (below_far (below_far (below_far (below_all hbW hV) (by omega) _ _) (by omega) _ _) (by omega) _ _) (by omega) _ _)
  have HDZ : Hid (dnz q.den = q.den) := zh (dnz_pos hden); rw [hQ]
  have hne : (bs (Lib.decDigits q.den)).toList.isEmpty = false := by
   rw [bs_toList]
   cases h : Lib.decDigits q.den with
   | nil => exact absurd h (Go.Qn.dec_ne _)
   | cons a l => rfl
  have hne2 : ¬ (bs (Lib.decDigits q.den)).toList = [] := by rw [bs_toList]; exact Go.Qn.dec_ne _

  obtain ⟨SN, hSN⟩ := eqx (bs (Lib.decDigits q.num.natAbs)); obtain ⟨S0, hS0⟩ := eqx (qtx q); rw [hSN] at HSP HPN; rw [hS0] at HSP ⊢; obtain ⟨SD, hSD⟩ := eqx (bs (Lib.decDigits q.den)); rw [hSD] at HSP HPD hne hne2; obtain ⟨r0, r1, r2, r3, _, _, _, _⟩ := B0.four; clear hQ hW hbW B0 hT bn bd ln1 ln2 htl hln hld hneg hden hsg hSN hS0 hSD hl1; go_enter Tryz.func44, Tryz.ntmps44; go_upto_region 1 with (fail); rw [HWW.out]
  go_upto_region 2 with (go_at_call 37; refine (HSP.out _).mono ?_; rintro e w1 ⟨rfl, hb1⟩; have HB1 := zh hb1; clear hb1)
  obtain ⟨gf, hgf⟩ := eqx (w1.heap.size); obtain ⟨w2, hw2⟩ := eqx (w1.alloc (.cells #[.bool false, .string SN, .string SD] 83))
  have hal : Below w1.heap.size w1 w2 := by rw [← hw2]; exact bal
  have Bf : Blk w2 gf 83 #[.bool false, .string SN, .string SD] := by rw [← hw2, ← hgf]; exact Blk.new _ _ _
  have HBf := zh Bf; have HB2 := zh (below_all HB1.out hal); rw [hw2, hgf]; clear hw2 hgf hal HB1 HSP; obtain ⟨f0, f1, f2, _, _, _⟩ := Bf.three; clear Bf
  go_upto_region 5 with (go_at_call 38; refine (HPN.out _).mono ?_; rintro e w3 ⟨RN, cN, rfl, hRN, hb3⟩; have HB3 := zh hb3; have HRN := zh hRN; clear hb3 hRN)
  obtain ⟨g6, hg6⟩ := eqx (w3.heap.size); obtain ⟨w4, hw4⟩ := eqx (w3.alloc (.cells #[.bool false, .slice RN ln cN, .bool false, .slice none 0 0] 70))
  have hal : Below w3.heap.size w3 w4 := by rw [← hw4]; exact bal
  have B6 : Blk w4 g6 70 #[.bool false, .slice RN ln cN, .bool false, .slice none 0 0] := by rw [← hw4, ← hg6]; exact Blk.new _ _ _
  have hw26 : w2.heap.size ≤ g6 := by rw [← hg6]; exact HB3.out.size
  have HB4 := zh (below_all HB3.out hal); have HN4 := zh (HRN.out.keep hal); have HB6 := zh B6; rw [hw4, hg6]; clear hw4 hg6 hal HB3 HRN HPN B6 f0 f1 f2; obtain ⟨f0, f1, f2, _, _, _⟩ := (HBf.out.keep HB4.out HBf.out.lt).three; obtain ⟨x0, x1, x2, x3, x4, x5, x6, x7⟩ := HB6.out.four; have hfl := HBf.out.lt; go_upto_region 7 with (fail); obtain ⟨wA, rfl⟩ : ∃ x, x = w4 := ⟨_, rfl⟩; have C6 := HB6.out; have HNA := HN4; have HBA := HB4; have HC6 := zh C6; clear C6 x0 x1 x2 x3 x4 x5 x6 x7 f0 f1 f2; obtain ⟨f0, f1, f2, _, _, _⟩ := (HBf.out.keep HBA.out HBf.out.lt).three; obtain ⟨x0, x1, x2, x3, x4, x5, x6, x7⟩ := HC6.out.four
  go_upto_region 10 with (go_at_call 38; refine (HPD.out _).mono ?_; rintro e w6 ⟨RD, cD, rfl, hRD, hb6⟩; have HB7 := zh hb6; have HRD := zh hRD; obtain ⟨x0, x1, x2, x3, x4, x5, x6, x7⟩ := (HC6.out.keep hb6 HC6.out.lt).four; clear hb6 hRD)
  obtain ⟨wB, hwB⟩ := eqx ((w6.setCell ⟨g6, 2, none⟩ (.bool false)).setCell ⟨g6, 3, none⟩ (.slice RD ld cD)); have Y6 := HC6.out.keep HB7.out HC6.out.lt
  have D6 : Blk wB g6 70 #[.bool false, .slice RN ln cN, .bool false, .slice RD ld cD] := by rw [← hwB]; exact rz_hi Y6 _ _
  have hN6 := HNA.out.keep HB7.out; have hoff : Off RN (dg q.num.natAbs).length g6 := hN6.offB Y6 (by simp); have hoffD : Off RD (dg q.den).length g6 := HRD.out.offB Y6 (by simp); have HNB : Hid (NW wB RN cN q.num.natAbs) := zh (by rw [← hwB]; exact (hN6.far hoff _ _).far hoff _ _); have HDB : Hid (NW wB RD cD q.den) := zh (by rw [← hwB]; exact (HRD.out.far hoffD _ _).far hoffD _ _); have HBB : Hid (Below w2.heap.size w2 wB) := zh (by rw [← hwB]; exact below_far (below_far (below_all HBA.out HB7.out) hw26 _ _) hw26 _ _); have HD6 := zh D6; rw [hwB]; clear hwB hN6 hoff hoffD Y6 D6 x0 x1 x2 x3 x4 x5 x6 x7; obtain ⟨x0, x1, x2, x3, x4, x5, x6, x7⟩ := HD6.out.four; have hbe := below_all HBW.out (below_all HB2.out HBB.out); have HBE := zh hbe; clear hbe
  go_wp2_with (first
    | (go_at_call 39; refine (HGC.out _ _ _ _ _ HBE.out HNB.out HDB.out).mono ?_; rintro e w7 ⟨RG, cG, rfl, hRG, hb7⟩; have HB8 := zh hb7; have HRG := zh hRG; clear hb7 hRG)
    | (go_at_call 40; refine (HIO.out _ _ _ HRG.out).mono ?_; rintro e w8 ⟨rfl, hb8⟩; have HB9 := zh (below_all HB8.out hb8); obtain ⟨x0, x1, x2, x3, x4, x5, x6, x7⟩ := (HD6.out.keep HB9.out HD6.out.lt).four; have HW8 := zh (below_all HB2.out (below_all HBB.out HB9.out)); have Y0 := HB0.out.keep HW8.out HB0.out.lt; have HEND := zh (HFIN.out w8 RN cN RD cD HW8.out (HNB.out.keep HB9.out) (by rw [HDZ.out]; exact HDB.out.keep HB9.out)); have YT := rz_four Y0 (.bool false) (.slice RN ln cN) (.bool false) (.slice RD ld cD); obtain ⟨t0, t1, t2, t3, _, _, _, _⟩ := Y0.four; clear hb8))
  obtain ⟨t0, t1, t2, t3, _, _, _, _⟩ := YT.four; exact bodyPost_ret (v := .tuple #[.agg #[.bool false, .slice RN ln cN, .bool false, .slice RD ld cD], .bool true]) (by simp [results, Tryz.results44, go_sem, t0, t1, t2, t3]) rfl HEND.out
theorem read_nf (q : Rat) (w : World) (bn : (dg q.num.natAbs).length ≤ 79) (bd : (dg q.den).length ≤ 79) (hneg : q.num < 0) (hden : q.den ≠ 1) (hT : Tab w) :
    Calls Tryz.prog 44 #[.string (qtx q)] w (RetRd q w) := by
  have hsg : decide (q.num < 0) = true := dT hneg; have ln1 := dec_len bn; have ln2 := dec_len bd
  have htl : (Go.Qn.text (decide (q.num < 0)) q.num.natAbs q.den).length ≤ 4000 := by
   unfold Go.Qn.text; simp only [List.length_append]
   split <;> (try split) <;> simp <;> omega
  have HSP : Hid (∀ V, Calls Tryz.prog 37 #[.string (qtx q)] V fun e w' => e = .returned (.tuple #[.agg #[.bool true, .string (bs (Lib.decDigits q.num.natAbs)), .string (bs (Lib.decDigits q.den))], .bool true]) ∧ Below V.heap.size V w') := zh (fun V => by
   have := split_textL (decide (q.num < 0)) q.num.natAbs q.den V (canon q) htl; unfold RetSplit3 at this; rw [hsg, if_neg hden] at this; unfold qtx; rw [hsg]
   exact this)
  obtain ⟨ln, hln⟩ := eqx ((dg q.num.natAbs).length); obtain ⟨ld, hld⟩ := eqx ((dg q.den).length)
  have HPN : Hid (∀ V, Calls Tryz.prog 38 #[.string (bs (Lib.decDigits q.num.natAbs))] V fun e w' => ∃ R c, e = .returned (.agg #[.bool false, .slice R ln c]) ∧ NW w' R c q.num.natAbs ∧ Below V.heap.size V w') := zh (fun V => by
   have := parse_long (bs (Lib.decDigits q.num.natAbs)) V (by rw [bs_size]; omega) (by rw [bs_data]; exact Go.Qn.dec_allD _); rw [bs_data, Go.Qn.val_dec] at this; unfold RetI at this; rw [hln] at this
   exact this)
  have HNG : Hid (∀ V A c, Calls Tryz.prog 71 #[.agg #[.bool false, .slice A ln c]] V fun e w' => e = .returned (.agg #[.bool true, .slice A ln c]) ∧ Below V.heap.size V w') := zh (fun V A c => ineg_w false A ln c V true (by
   have := (dg_len_pos (u := q.num.natAbs)).2 (by omega); rw [hln] at this
   simp; omega))
  have HPD : Hid (∀ V, Calls Tryz.prog 38 #[.string (bs (Lib.decDigits q.den))] V fun e w' => ∃ R c, e = .returned (.agg #[.bool false, .slice R ld c]) ∧ NW w' R c q.den ∧ Below V.heap.size V w') := zh (fun V => by
   have := parse_long (bs (Lib.decDigits q.den)) V (by rw [bs_size]; omega) (by rw [bs_data]; exact Go.Qn.dec_allD _); rw [bs_data, Go.Qn.val_dec] at this; unfold RetI at this; rw [hld] at this
   exact this)
  obtain ⟨l1, hl1⟩ := eqx ((dg 1).length)
  have HGC : Hid (∀ V A a B b, Below w.heap.size w V → NW V A a q.num.natAbs → NW V B b q.den → Calls Tryz.prog 39 #[.agg #[.bool true, .slice A ln a], .agg #[.bool false, .slice B ld b]] V fun e w' => ∃ R c, e = .returned (.agg #[.bool false, .slice R l1 c]) ∧ NW w' R c 1 ∧ Below V.heap.size V w') := zh (fun V A a B b hV hA hB => by
   have := igcd_w A B a b q.num.natAbs q.den true false V hA hB (by omega) (by omega) (.inl (by omega)) (hT.below hV hT.1); rw [q.reduced] at this; unfold RetI at this; rw [hln, hld, hl1] at this
   exact this)
  have HIO : Hid (∀ V A a, NW V A a 1 → Calls Tryz.prog 40 #[.agg #[.bool false, .slice A l1 a]] V fun e w' => e = .returned (.bool true) ∧ Below V.heap.size V w') := zh (fun V A a hA => by
   have := isone_w A a 1 V hA; rw [hl1] at this
   exact this)
  obtain ⟨Q, hQ⟩ := eqx (RetRd q w); obtain ⟨W, hW⟩ := eqx (w.alloc (.cells #[.bool false, .slice none 0 0, .bool false, .slice none 0 0] 70))
  have B0 : Blk W w.heap.size 70 #[.bool false, .slice none 0 0, .bool false, .slice none 0 0] := by rw [← hW]; exact Blk.new _ _ _
  have hbW : Below w.heap.size w W := by rw [← hW]; exact bal
  have HB0 := zh B0; have HWW := zh hW; have HBW := zh hbW
  have HFIN : Hid (∀ V R c RD cD, Below W.heap.size W V → NW V R c q.num.natAbs → NW V RD cD (dnz q.den) → Q (.returned (.tuple #[.agg #[.bool true, .slice R ln c, .bool false, .slice RD ld cD], .bool true])) ((((V.setCell ⟨w.heap.size, 0, none⟩ (.bool true)).setCell ⟨w.heap.size, 1, none⟩ (.slice R ln c)).setCell ⟨w.heap.size, 2, none⟩ (.bool false)).setCell ⟨w.heap.size, 3, none⟩ (.slice RD ld cD))) := zh (fun V R c RD cD hV hR hD => by
   have Y := HB0.out.keep hV HB0.out.lt; rw [← hQ]; refine ⟨R, c, RD, cD, ?_, ⟨nw_four hR (hR.offB Y nil4) _ _ _ _, nw_four hD (hD.offB Y nil4) _ _ _ _⟩, ?_⟩
   ·unfold rval; rw [hsg, hln, dnz_pos hden, hld]
   ·exact below_far (below_far (below_far (below_far (below_all hbW hV) (by omega) _ _) (by omega) _ _) (by omega) _ _) (by omega) _ _)
  have HDZ : Hid (dnz q.den = q.den) := zh (dnz_pos hden); rw [hQ]
  have hne : (bs (Lib.decDigits q.den)).toList.isEmpty = false := by
   rw [bs_toList]
   cases h : Lib.decDigits q.den with
   | nil => exact absurd h (Go.Qn.dec_ne _)
   | cons a l => rfl
  have hne2 : ¬ (bs (Lib.decDigits q.den)).toList = [] := by rw [bs_toList]; exact Go.Qn.dec_ne _

  obtain ⟨SN, hSN⟩ := eqx (bs (Lib.decDigits q.num.natAbs)); obtain ⟨S0, hS0⟩ := eqx (qtx q); rw [hSN] at HSP HPN; rw [hS0] at HSP ⊢; obtain ⟨SD, hSD⟩ := eqx (bs (Lib.decDigits q.den)); rw [hSD] at HSP HPD hne hne2; obtain ⟨r0, r1, r2, r3, _, _, _, _⟩ := B0.four; clear hQ hW hbW B0 hT bn bd ln1 ln2 htl hln hld hneg hden hsg hSN hS0 hSD hl1; go_enter Tryz.func44, Tryz.ntmps44; go_upto_region 1 with (fail); rw [HWW.out]
  go_upto_region 2 with (go_at_call 37; refine (HSP.out _).mono ?_; rintro e w1 ⟨rfl, hb1⟩; have HB1 := zh hb1; clear hb1)
  obtain ⟨gf, hgf⟩ := eqx (w1.heap.size); obtain ⟨w2, hw2⟩ := eqx (w1.alloc (.cells #[.bool true, .string SN, .string SD] 83))
  have hal : Below w1.heap.size w1 w2 := by rw [← hw2]; exact bal
  have Bf : Blk w2 gf 83 #[.bool true, .string SN, .string SD] := by rw [← hw2, ← hgf]; exact Blk.new _ _ _
  have HBf := zh Bf; have HB2 := zh (below_all HB1.out hal); rw [hw2, hgf]; clear hw2 hgf hal HB1 HSP; obtain ⟨f0, f1, f2, _, _, _⟩ := Bf.three; clear Bf
  go_upto_region 5 with (go_at_call 38; refine (HPN.out _).mono ?_; rintro e w3 ⟨RN, cN, rfl, hRN, hb3⟩; have HB3 := zh hb3; have HRN := zh hRN; clear hb3 hRN)
  obtain ⟨g6, hg6⟩ := eqx (w3.heap.size); obtain ⟨w4, hw4⟩ := eqx (w3.alloc (.cells #[.bool false, .slice RN ln cN, .bool false, .slice none 0 0] 70))
  have hal : Below w3.heap.size w3 w4 := by rw [← hw4]; exact bal
  have B6 : Blk w4 g6 70 #[.bool false, .slice RN ln cN, .bool false, .slice none 0 0] := by rw [← hw4, ← hg6]; exact Blk.new _ _ _
  have hw26 : w2.heap.size ≤ g6 := by rw [← hg6]; exact HB3.out.size
  have HB4 := zh (below_all HB3.out hal); have HN4 := zh (HRN.out.keep hal); have HB6 := zh B6; rw [hw4, hg6]; clear hw4 hg6 hal HB3 HRN HPN B6 f0 f1 f2; obtain ⟨f0, f1, f2, _, _, _⟩ := (HBf.out.keep HB4.out HBf.out.lt).three; obtain ⟨x0, x1, x2, x3, x4, x5, x6, x7⟩ := HB6.out.four; have hfl := HBf.out.lt
  go_upto_region 7 with (go_at_call 71; refine (HNG.out _ _ _).mono ?_; rintro e w5 ⟨rfl, hb5⟩; have HB5 := zh hb5; obtain ⟨x0, x1, x2, x3, x4, x5, x6, x7⟩ := (HB6.out.keep hb5 HB6.out.lt).four; clear hb5)
  obtain ⟨wA, hwA⟩ := eqx ((w5.setCell ⟨g6, 0, none⟩ (.bool true)).setCell ⟨g6, 1, none⟩ (.slice RN ln cN)); have Y6 := HB6.out.keep HB5.out HB6.out.lt
  have C6 : Blk wA g6 70 #[.bool true, .slice RN ln cN, .bool false, .slice none 0 0] := by rw [← hwA]; exact rz_lo Y6 _ _
  have hN5 := HN4.out.keep HB5.out; have hoff : Off RN (dg q.num.natAbs).length g6 := hN5.offB Y6 (by simp); have HNA : Hid (NW wA RN cN q.num.natAbs) := zh (by rw [← hwA]; exact (hN5.far hoff _ _).far hoff _ _); have HBA : Hid (Below w2.heap.size w2 wA) := zh (by rw [← hwA]; exact below_far (below_far (below_all HB4.out HB5.out) hw26 _ _) hw26 _ _); rw [hwA]; clear hwA hN5 hoff Y6; have HC6 := zh C6; clear C6 x0 x1 x2 x3 x4 x5 x6 x7 f0 f1 f2; obtain ⟨f0, f1, f2, _, _, _⟩ := (HBf.out.keep HBA.out HBf.out.lt).three; obtain ⟨x0, x1, x2, x3, x4, x5, x6, x7⟩ := HC6.out.four
  go_upto_region 10 with (go_at_call 38; refine (HPD.out _).mono ?_; rintro e w6 ⟨RD, cD, rfl, hRD, hb6⟩; have HB7 := zh hb6; have HRD := zh hRD; obtain ⟨x0, x1, x2, x3, x4, x5, x6, x7⟩ := (HC6.out.keep hb6 HC6.out.lt).four; clear hb6 hRD)
  obtain ⟨wB, hwB⟩ := eqx ((w6.setCell ⟨g6, 2, none⟩ (.bool false)).setCell ⟨g6, 3, none⟩ (.slice RD ld cD)); have Y6 := HC6.out.keep HB7.out HC6.out.lt
  have D6 : Blk wB g6 70 #[.bool true, .slice RN ln cN, .bool false, .slice RD ld cD] := by rw [← hwB]; exact rz_hi Y6 _ _
  have hN6 := HNA.out.keep HB7.out; have hoff : Off RN (dg q.num.natAbs).length g6 := hN6.offB Y6 (by simp); have hoffD : Off RD (dg q.den).length g6 := HRD.out.offB Y6 (by simp); have HNB : Hid (NW wB RN cN q.num.natAbs) := zh (by rw [← hwB]; exact (hN6.far hoff _ _).far hoff _ _); have HDB : Hid (NW wB RD cD q.den) := zh (by rw [← hwB]; exact (HRD.out.far hoffD _ _).far hoffD _ _); have HBB : Hid (Below w2.heap.size w2 wB) := zh (by rw [← hwB]; exact below_far (below_far (below_all HBA.out HB7.out) hw26 _ _) hw26 _ _); have HD6 := zh D6; rw [hwB]; clear hwB hN6 hoff hoffD Y6 D6 x0 x1 x2 x3 x4 x5 x6 x7; obtain ⟨x0, x1, x2, x3, x4, x5, x6, x7⟩ := HD6.out.four; have hbe := below_all HBW.out (below_all HB2.out HBB.out); have HBE := zh hbe; clear hbe
  go_wp2_with (first
    | (go_at_call 39; refine (HGC.out _ _ _ _ _ HBE.out HNB.out HDB.out).mono ?_; rintro e w7 ⟨RG, cG, rfl, hRG, hb7⟩; have HB8 := zh hb7; have HRG := zh hRG; clear hb7 hRG)
    | (go_at_call 40; refine (HIO.out _ _ _ HRG.out).mono ?_; rintro e w8 ⟨rfl, hb8⟩; have HB9 := zh (below_all HB8.out hb8); obtain ⟨x0, x1, x2, x3, x4, x5, x6, x7⟩ := (HD6.out.keep HB9.out HD6.out.lt).four; have HW8 := zh (below_all HB2.out (below_all HBB.out HB9.out)); have Y0 := HB0.out.keep HW8.out HB0.out.lt; have HEND := zh (HFIN.out w8 RN cN RD cD HW8.out (HNB.out.keep HB9.out) (by rw [HDZ.out]; exact HDB.out.keep HB9.out)); have YT := rz_four Y0 (.bool true) (.slice RN ln cN) (.bool false) (.slice RD ld cD); obtain ⟨t0, t1, t2, t3, _, _, _, _⟩ := Y0.four; clear hb8))
  obtain ⟨t0, t1, t2, t3, _, _, _, _⟩ := YT.four; exact bodyPost_ret (v := .tuple #[.agg #[.bool true, .slice RN ln cN, .bool false, .slice RD ld cD], .bool true]) (by simp [results, Tryz.results44, go_sem, t0, t1, t2, t3]) rfl HEND.out
theorem read_q (q : Rat) (w : World) (bn : (dg q.num.natAbs).length ≤ 79) (bd : (dg q.den).length ≤ 79) (hT : Tab w) :
    Calls Tryz.prog 44 #[.string (qtx q)] w (RetRd q w) := by
  by_cases h1 : q.num < 0
  ·by_cases h2 : q.den = 1
   ·exact read_nw q w bn bd h1 h2 hT
   ·exact read_nf q w bn bd h1 h2 hT
  ·by_cases h2 : q.den = 1
   ·exact read_pw q w bn bd h1 h2 hT
   ·exact read_pf q w bn bd h1 h2 hT
end
end Go.Proofs.Tg.Iw
