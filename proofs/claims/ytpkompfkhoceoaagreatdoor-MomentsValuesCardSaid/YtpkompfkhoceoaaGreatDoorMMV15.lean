/- Parts of the proof: SC2, SC3, ST1, SM1, N2, E8, SP0. -/
import Derived.Maps.OwnSet
import Derived.WalkKit
import Derived.Test.YtpkompfkhoceoaaGreatDoorMMV1
import Derived.Test.YtpkompfkhoceoaaGreatDoorMMV2
import Derived.Test.YtpkompfkhoceoaaGreatDoorMMV8
import Derived.Test.YtpkompfkhoceoaaGreatDoorMMV14
section
/- The harness's tape: numbers. -/
namespace Go.Proofs.Tg
open Go.RowKit Go.Gr Go.Bn Go.Rq
set_option maxHeartbeats 4000000
set_option maxRecDepth 100000
theorem TapeAt.four {V : World} {g b : Nat} {a' b' c' d' : Value} (h : TapeAt V g) (hb : g < b) : TapeAt ((((V.setCell ⟨b, 0, none⟩ a').setCell ⟨b, 1, none⟩ b').setCell ⟨b, 2, none⟩ c').setCell ⟨b, 3, none⟩ d') g := (((h.far hb _ _).far hb _ _).far hb _ _).far hb _ _
theorem Tk.four {w V : World} {g b : Nat} {a' b' c' d' : Value} (h : Tk g w V) (hb : w.heap.size ≤ b) : Tk g w ((((V.setCell ⟨b, 0, none⟩ a').setCell ⟨b, 1, none⟩ b').setCell ⟨b, 2, none⟩ c').setCell ⟨b, 3, none⟩ d') := (((h.far hb _ _).far hb _ _).far hb _ _).far hb _ _
theorem QAt.four {V : World} {g : Nat} {cs : Array Value} {v a' b' c' d' : Value} {q : Rat} {t : TypeId} (h : QAt V v q) (B : Blk V g t cs) (hne : t ≠ 137) : QAt ((((V.setCell ⟨g, 0, none⟩ a').setCell ⟨g, 1, none⟩ b').setCell ⟨g, 2, none⟩ c').setCell ⟨g, 3, none⟩ d') v q := by
  obtain ⟨N, cn, D, cd, e, h1, h2⟩ := h
  exact ⟨N, cn, D, cd, e, h1.four B hne, h2.four B hne⟩
theorem whole_any (g k : Nat) (w : World) (hT : TapeAt w g) (hk : k ≤ 1000) :
    Calls Tryz.prog 44 #[.pointer (some ⟨g, 0, none⟩), .int .i64 (k : Nat)] w (RetT g (fun v w' => ∃ z : Int, z.natAbs ≤ k ∧ QAt w' v (z : Rat)) w) := by
  obtain ⟨W, hW⟩ : ∃ W, w.alloc (.cells #[.bool false, .slice none 0 0, .bool false, .slice none 0 0] 52) = W := ⟨_, rfl⟩
  have hbA : Below w.heap.size w W := by rw [← hW]; exact (Below.refl _ _).alloc (Nat.le_refl _) _
  have B0 : Blk W w.heap.size 52 #[.bool false, .slice none 0 0, .bool false, .slice none 0 0] := by rw [← hW]; exact Blk.new _ _ _
  have hg := hT.lt
  have hTW := hT.keep hbA
  have HN : Hid (Calls Tryz.prog 16 #[.pointer (some ⟨g, 0, none⟩), .int .i64 (2 * (k : Int) + 1)] W (RetT g (fun v _ => ∃ j : Nat, j < 2 * k + 1 ∧ v = .int .i64 (j : Nat)) W)) := Lib.hid (by
    have := next_any g (2 * k + 1) W hTW (by omega) (by omega)
    rwa [show ((2 * k + 1 : Nat) : Int) = 2 * (k : Int) + 1 by omega] at this)
  have HR := Lib.hid (fun (z : Int) (hz : z.natAbs ≤ 1000) V => r_q z (by omega) (by omega) V)
  have HWW := Lib.hid hW
  have HB0 := Lib.hid B0
  clear hW hT hTW
  obtain ⟨a0, a1, a2, a3, f0, f1, f2, f3⟩ := B0.four
  go_enter Tryz.func44, Tryz.ntmps44
  go_upto_region 1 with (fail)
  rw [HWW.out]
  go_wp2_with (fail)
  refine HN.out.mono ?_
  rintro e w1 ⟨_, rfl, ⟨j, hj, rfl⟩, hT1, ht1⟩
  have B1 := B0.grown ht1 (by simp; omega)
  have htk := (Tk.of (g := g) hbA).trans ht1
  have w1r : IntKind.i64.wrap ((j : Int) - (k : Int)) = (j : Int) - (k : Int) := IntWalk.i64_in _ (by omega)
  obtain ⟨z, hz⟩ : ∃ z, (j : Int) - (k : Int) = z := ⟨_, rfl⟩
  rw [hz] at w1r
  have hzk : z.natAbs ≤ k := by omega
  clear a0 a1 a2 a3 f0 f1 f2 f3
  obtain ⟨a0, a1, a2, a3, f0, f1, f2, f3⟩ := B1.four
  have HB1 := Lib.hid B1
  have HT1 := Lib.hid hT1
  have HTK := Lib.hid htk
  have hsz := ht1.size
  clear HN ht1 hT1 htk B1
  go_wp2_with (fail)
  refine (HR.out z (by omega) w1).mono ?_
  rintro e w2 ⟨_, rfl, ⟨N, cn, D, cd, rfl, hN, hD⟩, hb2⟩
  have C := HB1.out.keep hb2 HB1.out.lt
  have hQ : QAt w2 (.agg #[.bool (decide ((z : Rat).num < 0)), .slice N (dg (z : Rat).num.natAbs).length cn, .bool false, .slice D (dg (dnz (z : Rat).den)).length cd]) (z : Rat) := ⟨N, cn, D, cd, rfl, hN, hD⟩
  clear a0 a1 a2 a3 f0 f1 f2 f3
  obtain ⟨a0, a1, a2, a3, f0, f1, f2, f3⟩ := C.four
  generalize decide ((z : Rat).num < 0) = s at *
  generalize (dg (z : Rat).num.natAbs).length = n at *
  generalize (dg (dnz (z : Rat).den)).length = m at *
  have HQ := Lib.hid hQ
  clear hQ hN hD
  go_wp2
  obtain ⟨g0, g1, g2, g3, _⟩ := (blk_four (a' := .bool s) (b' := .slice N n cn) (c' := .bool false) (d' := .slice D m cd) C).four
  refine bodyPost_ret (v := .agg #[.bool s, .slice N n cn, .bool false, .slice D m cd]) (by simp [results, Tryz.results44, go_sem, g0, g1, g2, g3]) rfl ⟨_, rfl, ⟨z, hzk, HQ.out.four C (by decide)⟩, (HT1.out.keep hb2).four hg, (HTK.out.then hb2).four (Nat.le_refl _)⟩
theorem num_any (g : Nat) (w : World) (hT : TapeAt w g) :
    Calls Tryz.prog 18 #[.pointer (some ⟨g, 0, none⟩)] w (RetT g (fun v w' => ∃ (n : Int) (d : Nat), n.natAbs ≤ 9 ∧ 1 ≤ d ∧ d ≤ 4 ∧ QAt w' v (mkRat n d)) w) := by
  obtain ⟨W, hW⟩ : ∃ W, w.alloc (.cells #[.bool false, .slice none 0 0, .bool false, .slice none 0 0] 52) = W := ⟨_, rfl⟩
  have hbA : Below w.heap.size w W := by rw [← hW]; exact (Below.refl _ _).alloc (Nat.le_refl _) _
  have B0 : Blk W w.heap.size 52 #[.bool false, .slice none 0 0, .bool false, .slice none 0 0] := by rw [← hW]; exact Blk.new _ _ _
  have hg := hT.lt
  have hTW := hT.keep hbA
  have HN : Hid (Calls Tryz.prog 16 #[.pointer (some ⟨g, 0, none⟩), .int .i64 19] W (RetT g (fun v _ => ∃ j : Nat, j < 19 ∧ v = .int .i64 (j : Nat)) W)) := Lib.hid (next_any g 19 W hTW (by omega) (by omega))
  have HN4 : Hid (∀ V, TapeAt V g → Calls Tryz.prog 16 #[.pointer (some ⟨g, 0, none⟩), .int .i64 4] V (RetT g (fun v _ => ∃ j : Nat, j < 4 ∧ v = .int .i64 (j : Nat)) V)) := Lib.hid (fun V h => next_any g 4 V h (by omega) (by omega))
  have HWW := Lib.hid hW
  clear hW hT hTW
  obtain ⟨a0, a1, a2, a3, f0, f1, f2, f3⟩ := B0.four
  go_enter Tryz.func18, Tryz.ntmps18
  go_upto_region 1 with (fail)
  rw [HWW.out]
  go_wp2_with (fail)
  refine HN.out.mono ?_
  rintro e w1 ⟨_, rfl, ⟨j, hj, rfl⟩, hT1, ht1⟩
  have B1 := B0.grown ht1 (by simp; omega)
  have htk := (Tk.of (g := g) hbA).trans ht1
  obtain ⟨z, hz⟩ : ∃ z, (j : Int) - 9 = z := ⟨_, rfl⟩
  have hz' : z = (j : Int) - 9 := hz.symm
  have hzk : z.natAbs ≤ 9 := by omega
  have w1r : IntKind.i64.wrap z = z := IntWalk.i64_in _ (by omega)
  have hln : (dg z.natAbs).length ≤ 100 := by have := dg_lo (n := z.natAbs) (k := 1) (by simp only [B]; omega); omega
  obtain ⟨s, hs⟩ : ∃ s, decide (z < 0) = s := ⟨_, rfl⟩
  obtain ⟨n, hn⟩ : ∃ n, (dg z.natAbs).length = n := ⟨_, rfl⟩
  have HF1 : Hid (Calls Tryz.prog 47 #[.int .i64 z] w1 fun e w' => ∃ R c, e = .returned (.agg #[.bool s, .slice R n c]) ∧ ND w' R c z.natAbs ∧ Below w1.heap.size w1 w') := Lib.hid (by
    have := fromint_num z (by omega) (by omega) w1
    unfold RetZ at this
    rwa [hs, hn] at this)
  have HFR : Hid (∀ V A c D d (m : Nat), ND V A c z.natAbs → ND V D d m → 1 ≤ m → m ≤ 4 → Calls Tryz.prog 46 #[.agg #[.bool s, .slice A n c], .agg #[.bool false, .slice D (dg m).length d]] V (RetQ (mkRat z m) V)) := Lib.hid (fun V A c D d m h h' h1 h2 => by
    have := frac_q z m A D c d V h h' (by omega) (by show m < 4294967296; omega) (by omega)
    rwa [hs, hn] at this)
  clear hs hn hz' hln
  clear a0 a1 a2 a3 f0 f1 f2 f3
  have hsz := ht1.size
  obtain ⟨cs0, BT1⟩ := hT1.blk
  clear HN ht1
  go_wp2_with (fail)
  refine HF1.out.mono ?_
  rintro e w2 ⟨R, c, rfl, hR, hb2⟩
  have hT2 := hT1.keep hb2
  obtain ⟨cs2, BT2⟩ := hT2.blk
  go_wp2_with (fail)
  refine (HN4.out w2 hT2).mono ?_
  rintro e w3 ⟨_, rfl, ⟨i, hi, rfl⟩, hT3, ht3⟩
  have hR3 := hR.tk ht3 BT2 (by decide)
  obtain ⟨m, hm⟩ : ∃ m : Nat, 1 + i = m := ⟨_, rfl⟩
  have hmI : (1 : Int) + (i : Int) = (m : Int) := by omega
  have hm1 : 1 ≤ m := by omega
  have hm4 : m ≤ 4 := by omega
  have HF2 : Hid (Calls Tryz.prog 47 #[.int .i64 (m : Int)] w3 fun e w' => ∃ R c, e = .returned (.agg #[.bool false, .slice R (dg m).length c]) ∧ ND w' R c m ∧ Below w3.heap.size w3 w') := Lib.hid (by
    have := fromint_num (m : Int) (by omega) (by omega) w3
    unfold RetZ at this
    rwa [decide_eq_false (show ¬ (m : Int) < 0 by omega), Int.natAbs_natCast] at this)
  obtain ⟨nm, hnm⟩ : ∃ nm, (dg m).length = nm := ⟨_, rfl⟩
  rw [hnm] at HF2
  have B3 := (B1.keep hb2 B1.lt).grown ht3 (by simp; omega)
  have htk3 := (htk.then hb2).trans ht3
  have HNM := Lib.hid hnm
  have hmw : IntKind.i64.wrap (m : Int) = (m : Int) := IntWalk.i64_in _ (by omega)
  clear hnm hm hR ht3 hT1 hT2 BT1 BT2 hb2
  go_wp2_with (fail)
  refine HF2.out.mono ?_
  rintro e w4 ⟨D, d, rfl, hD, hb4⟩
  have HFF := HFR.out w4 R c D d m (hR3.keep hb4) hD hm1 hm4
  rw [HNM.out] at HFF
  have HFF := Lib.hid HFF
  have B4 := B3.keep hb4 B3.lt
  have htk4 := htk3.then hb4
  have hT4 := hT3.keep hb4
  clear HFR HF2 HF1
  go_wp2_with (fail)
  refine HFF.out.mono ?_
  rintro e w5 ⟨_, rfl, ⟨N, cn, D', cd, rfl, hN, hD'⟩, hb5⟩
  have C := B4.keep hb5 B4.lt
  have hQ : QAt w5 (.agg #[.bool (decide ((mkRat z m).num < 0)), .slice N (dg (mkRat z m).num.natAbs).length cn, .bool false, .slice D' (dg (dnz (mkRat z m).den)).length cd]) (mkRat z m) := ⟨N, cn, D', cd, rfl, hN, hD'⟩
  obtain ⟨a0, a1, a2, a3, f0, f1, f2, f3⟩ := C.four
  generalize decide ((mkRat z m).num < 0) = s2 at *
  generalize (dg (mkRat z m).num.natAbs).length = n2 at *
  generalize (dg (dnz (mkRat z m).den)).length = m2 at *
  have HQ := Lib.hid hQ
  clear hQ hN hD'
  go_wp2
  obtain ⟨g0, g1, g2, g3, _⟩ := (blk_four (a' := .bool s2) (b' := .slice N n2 cn) (c' := .bool false) (d' := .slice D' m2 cd) C).four
  refine bodyPost_ret (v := .agg #[.bool s2, .slice N n2 cn, .bool false, .slice D' m2 cd]) (by simp [results, Tryz.results18, go_sem, g0, g1, g2, g3]) rfl ⟨_, rfl, ⟨z, m, hzk, hm1, hm4, HQ.out.four C (by decide)⟩, (hT4.keep hb5).four hg, (htk4.then hb5).four (Nat.le_refl _)⟩
theorem positive_any (g : Nat) (w : World) (hT : TapeAt w g) :
    Calls Tryz.prog 45 #[.pointer (some ⟨g, 0, none⟩)] w (RetT g (fun v w' => ∃ (n : Int) (d : Nat), 1 ≤ n ∧ n ≤ 9 ∧ 1 ≤ d ∧ d ≤ 4 ∧ QAt w' v (mkRat n d)) w) := by
  obtain ⟨W, hW⟩ : ∃ W, w.alloc (.cells #[.bool false, .slice none 0 0, .bool false, .slice none 0 0] 52) = W := ⟨_, rfl⟩
  have hbA : Below w.heap.size w W := by rw [← hW]; exact (Below.refl _ _).alloc (Nat.le_refl _) _
  have B0 : Blk W w.heap.size 52 #[.bool false, .slice none 0 0, .bool false, .slice none 0 0] := by rw [← hW]; exact Blk.new _ _ _
  have hg := hT.lt
  have hTW := hT.keep hbA
  have HN : Hid (Calls Tryz.prog 16 #[.pointer (some ⟨g, 0, none⟩), .int .i64 9] W (RetT g (fun v _ => ∃ j : Nat, j < 9 ∧ v = .int .i64 (j : Nat)) W)) := Lib.hid (next_any g 9 W hTW (by omega) (by omega))
  have HN4 : Hid (∀ V, TapeAt V g → Calls Tryz.prog 16 #[.pointer (some ⟨g, 0, none⟩), .int .i64 4] V (RetT g (fun v _ => ∃ j : Nat, j < 4 ∧ v = .int .i64 (j : Nat)) V)) := Lib.hid (fun V h => next_any g 4 V h (by omega) (by omega))
  have HWW := Lib.hid hW
  clear hW hT hTW
  obtain ⟨a0, a1, a2, a3, f0, f1, f2, f3⟩ := B0.four
  go_enter Tryz.func45, Tryz.ntmps45
  go_upto_region 1 with (fail)
  rw [HWW.out]
  go_wp2_with (fail)
  refine HN.out.mono ?_
  rintro e w1 ⟨_, rfl, ⟨j, hj, rfl⟩, hT1, ht1⟩
  have B1 := B0.grown ht1 (by simp; omega)
  have htk := (Tk.of (g := g) hbA).trans ht1
  obtain ⟨z, hz⟩ : ∃ z, 1 + (j : Int) = z := ⟨_, rfl⟩
  have hz' : z = 1 + (j : Int) := hz.symm
  have hzk : 1 ≤ z ∧ z ≤ 9 := by omega
  have w1r : IntKind.i64.wrap z = z := IntWalk.i64_in _ (by omega)
  have hln : (dg z.natAbs).length ≤ 100 := by have := dg_lo (n := z.natAbs) (k := 1) (by simp only [B]; omega); omega
  obtain ⟨s, hs⟩ : ∃ s, decide (z < 0) = s := ⟨_, rfl⟩
  obtain ⟨n, hn⟩ : ∃ n, (dg z.natAbs).length = n := ⟨_, rfl⟩
  have HF1 : Hid (Calls Tryz.prog 47 #[.int .i64 z] w1 fun e w' => ∃ R c, e = .returned (.agg #[.bool s, .slice R n c]) ∧ ND w' R c z.natAbs ∧ Below w1.heap.size w1 w') := Lib.hid (by
    have := fromint_num z (by omega) (by omega) w1
    unfold RetZ at this
    rwa [hs, hn] at this)
  have HFR : Hid (∀ V A c D d (m : Nat), ND V A c z.natAbs → ND V D d m → 1 ≤ m → m ≤ 4 → Calls Tryz.prog 46 #[.agg #[.bool s, .slice A n c], .agg #[.bool false, .slice D (dg m).length d]] V (RetQ (mkRat z m) V)) := Lib.hid (fun V A c D d m h h' h1 h2 => by
    have := frac_q z m A D c d V h h' (by omega) (by show m < 4294967296; omega) (by omega)
    rwa [hs, hn] at this)
  clear hs hn hz' hln
  clear a0 a1 a2 a3 f0 f1 f2 f3
  have hsz := ht1.size
  obtain ⟨cs0, BT1⟩ := hT1.blk
  clear HN ht1
  go_wp2_with (fail)
  refine HF1.out.mono ?_
  rintro e w2 ⟨R, c, rfl, hR, hb2⟩
  have hT2 := hT1.keep hb2
  obtain ⟨cs2, BT2⟩ := hT2.blk
  go_wp2_with (fail)
  refine (HN4.out w2 hT2).mono ?_
  rintro e w3 ⟨_, rfl, ⟨i, hi, rfl⟩, hT3, ht3⟩
  have hR3 := hR.tk ht3 BT2 (by decide)
  obtain ⟨m, hm⟩ : ∃ m : Nat, 1 + i = m := ⟨_, rfl⟩
  have hmI : (1 : Int) + (i : Int) = (m : Int) := by omega
  have hm1 : 1 ≤ m := by omega
  have hm4 : m ≤ 4 := by omega
  have HF2 : Hid (Calls Tryz.prog 47 #[.int .i64 (m : Int)] w3 fun e w' => ∃ R c, e = .returned (.agg #[.bool false, .slice R (dg m).length c]) ∧ ND w' R c m ∧ Below w3.heap.size w3 w') := Lib.hid (by
    have := fromint_num (m : Int) (by omega) (by omega) w3
    unfold RetZ at this
    rwa [decide_eq_false (show ¬ (m : Int) < 0 by omega), Int.natAbs_natCast] at this)
  obtain ⟨nm, hnm⟩ : ∃ nm, (dg m).length = nm := ⟨_, rfl⟩
  rw [hnm] at HF2
  have B3 := (B1.keep hb2 B1.lt).grown ht3 (by simp; omega)
  have htk3 := (htk.then hb2).trans ht3
  have HNM := Lib.hid hnm
  have hmw : IntKind.i64.wrap (m : Int) = (m : Int) := IntWalk.i64_in _ (by omega)
  clear hnm hm hR ht3 hT1 hT2 BT1 BT2 hb2
  go_wp2_with (fail)
  refine HF2.out.mono ?_
  rintro e w4 ⟨D, d, rfl, hD, hb4⟩
  have HFF := HFR.out w4 R c D d m (hR3.keep hb4) hD hm1 hm4
  rw [HNM.out] at HFF
  have HFF := Lib.hid HFF
  have B4 := B3.keep hb4 B3.lt
  have htk4 := htk3.then hb4
  have hT4 := hT3.keep hb4
  clear HFR HF2 HF1
  go_wp2_with (fail)
  refine HFF.out.mono ?_
  rintro e w5 ⟨_, rfl, ⟨N, cn, D', cd, rfl, hN, hD'⟩, hb5⟩
  have C := B4.keep hb5 B4.lt
  have hQ : QAt w5 (.agg #[.bool (decide ((mkRat z m).num < 0)), .slice N (dg (mkRat z m).num.natAbs).length cn, .bool false, .slice D' (dg (dnz (mkRat z m).den)).length cd]) (mkRat z m) := ⟨N, cn, D', cd, rfl, hN, hD'⟩
  obtain ⟨a0, a1, a2, a3, f0, f1, f2, f3⟩ := C.four
  generalize decide ((mkRat z m).num < 0) = s2 at *
  generalize (dg (mkRat z m).num.natAbs).length = n2 at *
  generalize (dg (dnz (mkRat z m).den)).length = m2 at *
  have HQ := Lib.hid hQ
  clear hQ hN hD'
  go_wp2
  obtain ⟨g0, g1, g2, g3, _⟩ := (blk_four (a' := .bool s2) (b' := .slice N n2 cn) (c' := .bool false) (d' := .slice D' m2 cd) C).four
  refine bodyPost_ret (v := .agg #[.bool s2, .slice N n2 cn, .bool false, .slice D' m2 cd]) (by simp [results, Tryz.results45, go_sem, g0, g1, g2, g3]) rfl ⟨_, rfl, ⟨z, m, hzk.1, hzk.2, hm1, hm4, HQ.out.four C (by decide)⟩, (hT4.keep hb5).four hg, (htk4.then hb5).four (Nat.le_refl _)⟩
end Go.Proofs.Tg
end
section
/- Rows of rational numbers of the harness. -/
namespace Go.Proofs.Tg
open Go.RowKit Go.Gr Go.Bn Go.Rq
set_option maxHeartbeats 4000000
set_option maxRecDepth 100000
/-- A rational number and where its digits lie. -/
structure RVal where
  q : Rat
  N : Option Addr
  cn : Nat
  D : Option Addr
  cd : Nat
def RVal.cells (r : RVal) : List Value := [.bool (decide (r.q.num < 0)), .slice r.N (dg r.q.num.natAbs).length r.cn, .bool false, .slice r.D (dg (dnz r.q.den)).length r.cd]
def RVal.val (r : RVal) : Value := .agg #[.bool (decide (r.q.num < 0)), .slice r.N (dg r.q.num.natAbs).length r.cn, .bool false, .slice r.D (dg (dnz r.q.den)).length r.cd]
structure RVal.Ok (w : World) (r : RVal) : Prop where
  num : ND w r.N r.cn r.q.num.natAbs
  den : ND w r.D r.cd (dnz r.q.den)
theorem RVal.cells_len (r : RVal) : r.cells.length = 4 := rfl
theorem QAt.rval {w : World} {v : Value} {q : Rat} (h : QAt w v q) : ∃ r : RVal, r.q = q ∧ v = r.val ∧ r.Ok w := by
  obtain ⟨N, cn, D, cd, e, h1, h2⟩ := h
  exact ⟨⟨q, N, cn, D, cd⟩, rfl, e, h1, h2⟩
theorem RVal.Ok.at {w : World} {r : RVal} (h : r.Ok w) : QAt w r.val r.q := ⟨r.N, r.cn, r.D, r.cd, rfl, h.num, h.den⟩
theorem RVal.Ok.keep {w w' : World} {r : RVal} (h : r.Ok w) (hb : Below w.heap.size w w') : r.Ok w' := ⟨h.num.keep hb, h.den.keep hb⟩
theorem RVal.Ok.tk {w w' : World} {r : RVal} {g : Nat} {t : TypeId} {cs : Array Value} (h : r.Ok w) (hg : Tk g w w') (B : Blk w g t cs) (hne : t ≠ 137) : r.Ok w' := ⟨h.num.tk hg B hne, h.den.tk hg B hne⟩
theorem ND.grown {w w' : World} {A : Option Addr} {c k b sz n : Nat} {ys : List Value} {t : TypeId} {v : Value} (h : ND w A c k) (ho : w.ownsRow b t sz v n ys) (hg : w.grownBy w' v.ownBlock) (hne : t ≠ 137) : ND w' A c k := ⟨h.digs.grown ho hg hne, h.cap, h.nilc⟩
theorem RVal.Ok.grown {w w' : World} {r : RVal} {b sz n : Nat} {ys : List Value} {t : TypeId} {v : Value} (h : r.Ok w) (ho : w.ownsRow b t sz v n ys) (hg : w.grownBy w' v.ownBlock) (hne : t ≠ 137) : r.Ok w' := ⟨h.num.grown ho hg hne, h.den.grown ho hg hne⟩
theorem RVal.Ok.far {w : World} {r : RVal} {g : Nat} {t : TypeId} {cs : Array Value} (h : r.Ok w) (B : Blk w g t cs) (hne : t ≠ 137) (i : Nat) (u : Value) : r.Ok (w.setCell ⟨g, i, none⟩ u) := ⟨h.num.far B hne i u, h.den.far B hne i u⟩
/-- A row of rational numbers of the call's own. -/
structure OwnQ (base : Nat) (w : World) (A : Option Addr) (c : Nat) (rs : List RVal) : Prop where
  own : w.ownsRow base 52 4 (.slice A rs.length c) rs.length (rs.flatMap RVal.cells)
  ok : ∀ r ∈ rs, r.Ok w
theorem OwnQ.nil (base : Nat) (w : World) : OwnQ base w none 0 [] := ⟨World.ownsRow_nil _ _ _ _, fun r h => absurd h (by simp)⟩
theorem OwnQ.keep {base : Nat} {w w' : World} {A : Option Addr} {c : Nat} {rs : List RVal} (h : OwnQ base w A c rs) (hb : Below w.heap.size w w') : OwnQ base w' A c rs :=
  ⟨own_below h.own hb (Nat.le_refl _), fun r hr => (h.ok r hr).keep hb⟩
theorem OwnQ.tk {base g : Nat} {w w' : World} {A : Option Addr} {c : Nat} {rs : List RVal} {t : TypeId} {cs : Array Value} (h : OwnQ base w A c rs) (hg : Tk g w w') (hb : g < base) (B : Blk w g t cs) (hne : t ≠ 137) : OwnQ base w' A c rs :=
  ⟨own_tk h.own hg hb, fun r hr => (h.ok r hr).tk hg B hne⟩
theorem OwnQ.mono {base base' : Nat} {w : World} {A : Option Addr} {c : Nat} {rs : List RVal} (h : OwnQ base w A c rs) (hb : base' ≤ base) : OwnQ base' w A c rs := ⟨own_base h.own hb, h.ok⟩
theorem OwnQ.push {base : Nat} {w w' : World} {A : Option Addr} {c : Nat} {rs : List RVal} {r : RVal} {A' : Option Addr} {c' : Nat} (h : OwnQ base w A c rs) (hr : r.Ok w) (hg : w.grownBy w' (Value.slice A rs.length c).ownBlock)
    (h' : w'.ownsRow base 52 4 (.slice A' (rs.length + 1) c') (rs.length + 1) (rs.flatMap RVal.cells ++ r.cells)) : OwnQ base w' A' c' (rs ++ [r]) := by
  refine ⟨?_, fun x hx => ?_⟩
  · rw [List.length_append, List.flatMap_append]
    simpa using h'
  · rcases List.mem_append.1 hx with hx | hx
    · exact (h.ok x hx).grown h.own hg (by decide)
    · rw [List.mem_singleton.1 hx]; exact hr.grown h.own hg (by decide)
/-- Another row grows. -/
theorem OwnQ.other {base b sz n : Nat} {w w' : World} {A : Option Addr} {c : Nat} {rs : List RVal} {ys : List Value} {t : TypeId} {v : Value} (h : OwnQ base w A c rs) (ho : w.ownsRow b t sz v n ys) (hg : w.grownBy w' v.ownBlock) (hne : t ≠ 137) (hne2 : 52 ≠ t) : OwnQ base w' A c rs :=
  ⟨h.own.kept hg (own_ne h.own ho hne2), fun r hr => (h.ok r hr).grown ho hg hne⟩
theorem TapeAt.grown {base g sz n : Nat} {w w' : World} {t : TypeId} {v : Value} {ys : List Value} (h : TapeAt w g) (ho : w.ownsRow base t sz v n ys) (hb : g < base) (hg : w.grownBy w' v.ownBlock) : TapeAt w' g := by
  have hk : ∀ k, k ≤ g → some k ≠ v.ownBlock := fun k hk e => by have := (ho.lt _ e.symm).1; omega
  obtain ⟨A, c, k, xs, B, hS, hO, r⟩ := h.ex
  refine ⟨A, c, k, xs, B.grown hg (hk g (Nat.le_refl _)), ⟨hS.len, fun hp => ?_⟩, hO, r⟩
  obtain ⟨ad, e, hlt, ha⟩ := hS.lies hp
  exact ⟨ad, e, Nat.lt_of_lt_of_le hlt hg.size, fun j u hu => hg.cell (ha j u hu) (by rw [add_block]; exact hk _ (Nat.le_of_lt (hO hp ad e)))⟩
theorem Tk.grown {g base sz n : Nat} {w V V' : World} {t : TypeId} {v : Value} {ys : List Value} (h : Tk g w V) (ho : V.ownsRow base t sz v n ys) (hb : w.heap.size ≤ base) (hg : V.grownBy V' v.ownBlock) : Tk g w V' :=
  ⟨hg.os.trans h.os, hg.tape.trans h.tape, hg.output.trans h.output, Nat.le_trans h.size hg.size, fun k hk hkg => (hg.block k (Nat.lt_of_lt_of_le hk h.size) (fun e => by have := (ho.lt _ e.symm).1; omega)).trans (h.block k hk hkg)⟩
theorem rat_info : (Tryz.prog.info? 52).map (fun i => (i.zero, i.size, i.bytes)) = some (some (.agg #[.bool false, .slice none 0 0, .bool false, .slice none 0 0]), 4, 64) := by kernel_rfl
theorem qrow_info : (Tryz.prog.info? 27).map (fun i => (i.zero, i.size, i.bytes)) = some (some (.slice none 0 0), 1, 24) := by kernel_rfl
theorem OwnQ.at {base : Nat} {w : World} {A : Option Addr} {c : Nat} {rs : List RVal} (h : OwnQ base w A c rs) {k : Nat} (hk : k < rs.length) : ∃ ad, A = some ad ∧ ∀ j u, rs[k].cells[j]? = some u → w.cell? (ad.add (k * 4 + j)) = some u := by
  have hS := Sl.own h.own
  obtain ⟨ad, e, hlt, ha⟩ := hS.lies (by omega)
  refine ⟨ad, e, fun j u hu => ha _ _ ?_⟩
  have hj : j < 4 := (List.getElem?_eq_some_iff.1 hu).1
  clear ha hS h
  induction rs generalizing k with
  | nil => exact absurd hk (by simp)
  | cons r rs ih =>
    cases k with
    | zero =>
      rw [List.flatMap_cons, List.getElem?_append_left (by rw [RVal.cells_len]; omega)]
      simpa using hu
    | succ k =>
      rw [List.flatMap_cons, List.getElem?_append_right (by rw [RVal.cells_len]; omega), RVal.cells_len]
      have : (k + 1) * 4 + j - 4 = k * 4 + j := by omega
      rw [this]
      exact ih (by simpa using hk) (by simpa using hu)
end Go.Proofs.Tg
end
section
/- Terms of the harness's polynomials in memory: a rational coefficient and exponents. -/
namespace Go.Proofs.Tg
open Go.RowKit Go.Gr Go.Bn Go.Rq Go.Mo
set_option maxHeartbeats 8000000
set_option maxRecDepth 100000
structure TQ where
  r : RVal
  E : Option Addr
  ce : Nat
  el : List Int
def TQ.cells (t : TQ) : List Value := [.bool (decide (t.r.q.num < 0)), .slice t.r.N (dg t.r.q.num.natAbs).length t.r.cn, .bool false, .slice t.r.D (dg (dnz t.r.q.den)).length t.r.cd, .slice t.E t.el.length t.ce]
theorem TQ.cells_len (t : TQ) : t.cells.length = 5 := rfl
/-- A term can be read. -/
structure TQ.Ok (w : World) (t : TQ) : Prop where
  r : t.r.Ok w
  e : Ints w t.E t.el
theorem TQ.Ok.keep {w w' : World} {t : TQ} (h : t.Ok w) (hb : Below w.heap.size w w') : t.Ok w' := ⟨h.r.keep hb, h.e.keep hb⟩
/-- A slice of terms. -/
structure TQs (w : World) (A : Option Addr) (ts : List TQ) : Prop where
  sl : Sl w A ts.length 5 (ts.flatMap TQ.cells)
  ok : ∀ t ∈ ts, t.Ok w
theorem TQs.keep {w w' : World} {A : Option Addr} {ts : List TQ} (h : TQs w A ts) (hb : Below w.heap.size w w') : TQs w' A ts := ⟨h.sl.keep hb, fun t ht => (h.ok t ht).keep hb⟩
theorem tq_flat (ts : List TQ) (k : Nat) {j : Nat} {u : Value} (hk : k < ts.length) (hu : ts[k].cells[j]? = some u) : (ts.flatMap TQ.cells)[k * 5 + j]? = some u := by
  have hj : j < 5 := (List.getElem?_eq_some_iff.1 hu).1
  rw [flat_get TQ.cells 5 (fun _ => rfl) ts k j hk (by omega)]
  exact hu
theorem TQs.at {w : World} {A : Option Addr} {ts : List TQ} (h : TQs w A ts) {k : Nat} (hk : k < ts.length) : ∃ ad, A = some ad ∧
    w.cell? (ad.add (k * 5)) = some (.bool (decide (ts[k].r.q.num < 0))) ∧ w.cell? ⟨(ad.add (k * 5)).block, (ad.add (k * 5)).off + 1, none⟩ = some (.slice ts[k].r.N (dg ts[k].r.q.num.natAbs).length ts[k].r.cn) ∧
    w.cell? ⟨(ad.add (k * 5)).block, (ad.add (k * 5)).off + 2, none⟩ = some (.bool false) ∧ w.cell? ⟨(ad.add (k * 5)).block, (ad.add (k * 5)).off + 3, none⟩ = some (.slice ts[k].r.D (dg (dnz ts[k].r.q.den)).length ts[k].r.cd) ∧
    w.cell? ⟨(ad.add (k * 5)).block, (ad.add (k * 5)).off + 4, none⟩ = some (.slice ts[k].E ts[k].el.length ts[k].ce) := by
  obtain ⟨ad, e, hlt, ha⟩ := h.sl.lies (by omega)
  have off : ∀ j, (⟨(ad.add (k * 5)).block, (ad.add (k * 5)).off + (j + 1), none⟩ : Addr) = ad.add (k * 5 + (j + 1)) := fun j => by
    rw [← add_add]; simp [Addr.add]
  refine ⟨ad, e, ha _ _ (tq_flat ts k (j := 0) hk rfl), (congrArg w.cell? (off 0)).trans (ha _ _ (tq_flat ts k (j := 1) hk rfl)), (congrArg w.cell? (off 1)).trans (ha _ _ (tq_flat ts k (j := 2) hk rfl)), (congrArg w.cell? (off 2)).trans (ha _ _ (tq_flat ts k (j := 3) hk rfl)), (congrArg w.cell? (off 3)).trans (ha _ _ (tq_flat ts k (j := 4) hk rfl))⟩
theorem tq_take (ts : List TQ) (m : Nat) : (ts.flatMap TQ.cells).take (m * 5) = (ts.take m).flatMap TQ.cells := by
  induction ts generalizing m with
  | nil => simp
  | cons t ts ih =>
    cases m with
    | zero => simp
    | succ m =>
      rw [List.take_succ_cons, List.flatMap_cons, List.flatMap_cons, List.take_append, TQ.cells_len, List.take_of_length_le (by rw [TQ.cells_len]; omega), show (m + 1) * 5 - 5 = m * 5 by omega, ih]
theorem tq_drop (ts : List TQ) (m : Nat) : (ts.flatMap TQ.cells).drop (m * 5) = (ts.drop m).flatMap TQ.cells := by
  induction ts generalizing m with
  | nil => simp
  | cons t ts ih =>
    cases m with
    | zero => simp
    | succ m =>
      rw [List.drop_succ_cons, List.flatMap_cons, List.drop_append, TQ.cells_len, List.drop_of_length_le (by rw [TQ.cells_len]; omega), show (m + 1) * 5 - 5 = m * 5 by omega, ih, List.nil_append]
theorem TQs.take {w : World} {od : Addr} {ts : List TQ} (h : TQs w (some od) ts) {m : Nat} (hm : m ≤ ts.length) : TQs w (some od) (ts.take m) := by
  have hl : (ts.take m).length = m := by rw [List.length_take]; omega
  refine ⟨⟨by rw [hl, ← tq_take, List.length_take, h.sl.len]; omega, fun hp => ?_⟩, fun t ht => h.ok t (List.mem_of_mem_take ht)⟩
  obtain ⟨ad, e, hlt, ha⟩ := h.sl.lies (by omega)
  refine ⟨ad, e, hlt, fun j u hu => ha j u ?_⟩
  rw [← tq_take, List.getElem?_take] at hu
  split at hu
  · exact hu
  · exact absurd hu (by simp)
theorem TQs.drop {w : World} {od : Addr} {ts : List TQ} (h : TQs w (some od) ts) {m : Nat} (hm : m ≤ ts.length) : TQs w (some (od.add (m * 5))) (ts.drop m) := by
  have hl : (ts.drop m).length = ts.length - m := List.length_drop
  refine ⟨⟨by rw [hl, ← tq_drop, List.length_drop, h.sl.len]; omega, fun hp => ?_⟩, fun t ht => h.ok t (List.mem_of_mem_drop ht)⟩
  obtain ⟨ad, e, hlt, ha⟩ := h.sl.lies (by omega)
  injection e with e
  subst e
  refine ⟨_, rfl, by rw [add_block]; exact hlt, fun j u hu => ?_⟩
  rw [add_add]
  refine ha _ u ?_
  rw [← tq_drop, List.getElem?_drop] at hu
  exact hu
/-- A row of terms of a call's own. -/
structure OwnTQ (base : Nat) (w : World) (A : Option Addr) (c : Nat) (ts : List TQ) : Prop where
  own : w.ownsRow base 99 5 (.slice A ts.length c) ts.length (ts.flatMap TQ.cells)
  ok : ∀ t ∈ ts, t.Ok w
theorem OwnTQ.nil (base : Nat) (w : World) : OwnTQ base w none 0 [] := ⟨World.ownsRow_nil _ _ _ _, fun t h => absurd h (by simp)⟩
theorem OwnTQ.keep {base : Nat} {w w' : World} {A : Option Addr} {c : Nat} {ts : List TQ} (h : OwnTQ base w A c ts) (hb : Below w.heap.size w w') : OwnTQ base w' A c ts :=
  ⟨own_below h.own hb (Nat.le_refl _), fun t ht => (h.ok t ht).keep hb⟩
theorem OwnTQ.mono {base base' : Nat} {w : World} {A : Option Addr} {c : Nat} {ts : List TQ} (h : OwnTQ base w A c ts) (hb : base' ≤ base) : OwnTQ base' w A c ts := ⟨own_base h.own hb, h.ok⟩
end Go.Proofs.Tg
end
section
/- A map to bools that the call itself has made, as a set of keys: the look-up, the store. -/
namespace Go.Proofs.Tg
open Go.RowKit Go.Maps Go.WideShapes
/-- The map holds true at just the keys of the list. -/
structure SetOK {α : Type} [DecidableEq α] (kl : α → Lit) (dom : α → Prop) (S : List α) (D : DataW Unit) : Prop where
  isMap : Maps.IsMap D
  at' : ∀ v, dom v → D.atKey (kl v) (.lit (.bool false)) = .lit (.bool (decide (v ∈ S)))
theorem SetOK.nil {α : Type} [DecidableEq α] (kl : α → Lit) (dom : α → Prop) : SetOK kl dom [] (.map []) := ⟨Maps.isMap_empty, fun v _ => by simp [DataW.atKey]⟩
theorem SetOK.put {α : Type} [DecidableEq α] {kl : α → Lit} {dom : α → Prop} {S : List α} {D : DataW Unit} (h : SetOK kl dom S D) (hk : ∀ v, dom v → WideAt.IsKeyLit (kl v)) (hi : ∀ u v, dom u → dom v → kl u = kl v → u = v) {x : α} (hx : dom x) :
    SetOK kl dom (x :: S) (D.put (kl x) (.lit (.bool true))) := by
  refine ⟨h.isMap.put _ _, fun v hv => ?_⟩
  by_cases he : v = x
  · subst he
    rw [Maps.atKey_put_same h.isMap (hk v hv)]
    simp
  · rw [Maps.atKey_put_other (fun e => he (hi v x hv hx e)), h.at' v hv]
    simp [he]
/-- The same set, told by another list. -/
theorem SetOK.congr {α : Type} [DecidableEq α] {kl : α → Lit} {dom : α → Prop} {S S' : List α} {D : DataW Unit} (h : SetOK kl dom S D) (hs : ∀ v, dom v → (v ∈ S ↔ v ∈ S')) : SetOK kl dom S' D :=
  ⟨h.isMap, fun v hv => by rw [h.at' v hv, decide_eq_decide.2 (hs v hv)]⟩
end Go.Proofs.Tg
end
section
/- The text of a number's negative; a sign vector applied to a polynomial. -/
namespace Go.Mo
open Go.Qn Go.Lib
def negL (l : List UInt8) : List UInt8 := if l.head? = some 45 then l.tail else 45 :: l
theorem negL_text {b : Bool} {n d : Nat} : negL (text b n d) = text (!b) n d := by
  cases b with
  | true => simp [negL, text]
  | false =>
    have hne := dec_ne n
    have hh : (text false n d).head? ≠ some 45 := by
      unfold text
      simp only [Bool.false_eq_true, if_false, List.nil_append]
      rw [List.head?_append]
      cases hx : decDigits n with
      | nil => exact absurd hx hne
      | cons c t =>
        simp only [List.head?_cons, Option.some_or]
        intro e
        injection e with e
        have := dec_allD n c (by rw [hx]; simp)
        rw [e] at this
        exact absurd this (by decide)
    unfold negL
    rw [if_neg hh]
    simp [text]
def negB (s : ByteArray) : ByteArray := ⟨(negL s.data.toList).toArray⟩
theorem coef_some {s : ByteArray} (h : coefOk s = true) : ∃ b n d, rd s.data.toList = some (b, n, d) ∧ n ≠ 0 := by
  unfold coefOk at h
  split at h
  · rename_i b n d hr
    exact ⟨b, n, d, hr, by simpa using h⟩
  · cases h
/-! A sign vector applied. -/
end Go.Mo
end
section
/- Classes and products of monomials: plain. -/
namespace Go.Ev
open Go.Gr Go.Mo
/-- The sum of two monomials. -/
def addL (a b : List Int) : List Int := List.zipWith (· + ·) a b
theorem addL_len {a b : List Int} (h : a.length = b.length) : (addL a b).length = a.length := by simp [addL, h]
end Go.Ev
end
section
/- Partitions made vertex by vertex from an equivalence, and a coarser one: plain. -/
namespace Go.Sp
open Classical
structure Eqv (C : Nat → Nat → Prop) : Prop where
  refl : ∀ a, C a a
  symm : ∀ a b, C a b → C b a
  trans : ∀ a b c, C a b → C b c → C a c
inductive MadeR (C : Nat → Nat → Prop) : Nat → List (List Int) → Prop
  | zero : MadeR C 0 []
  | skip {k : Nat} {ls : List (List Int)} : MadeR C k ls → (∃ l ∈ ls, (k : Int) ∈ l) → MadeR C (k + 1) ls
  | add {k : Nat} {ls : List (List Int)} {l : List Int} : MadeR C k ls → (∀ m ∈ ls, (k : Int) ∉ m) → l.Pairwise (· < ·) → (∀ x : Int, x ∈ l ↔ ∃ v : Nat, x = v ∧ C k v) → MadeR C (k + 1) (ls ++ [l])
/-- Each block is the class of a number. -/
theorem MadeR.each {C : Nat → Nat → Prop} {k : Nat} {ls : List (List Int)} (h : MadeR C k ls) : ∀ l ∈ ls, ∃ r, r < k ∧ ∀ x : Int, x ∈ l ↔ ∃ v : Nat, x = v ∧ C r v := by
  induction h with
  | zero => intro l hl; cases hl
  | skip _ _ ih => intro l hl; obtain ⟨r, h1, h2⟩ := ih l hl; exact ⟨r, by omega, h2⟩
  | @add k ls l _ _ _ q ih =>
    intro m hm
    rcases List.mem_append.1 hm with h | h
    · obtain ⟨r, h1, h2⟩ := ih m h; exact ⟨r, by omega, h2⟩
    · rw [List.mem_singleton.1 h]; exact ⟨k, by omega, q⟩
/-- Which numbers are in a block. -/
theorem MadeR.mem {C : Nat → Nat → Prop} (hE : Eqv C) {k : Nat} {ls : List (List Int)} (h : MadeR C k ls) (v : Nat) : (∃ l ∈ ls, (v : Int) ∈ l) ↔ ∃ j, j < k ∧ C j v := by
  induction h with
  | zero => simp
  | @skip k ls _ e ih =>
    rw [ih]
    constructor
    · rintro ⟨j, h1, h2⟩; exact ⟨j, by omega, h2⟩
    · rintro ⟨j, h1, h2⟩
      by_cases hj : j < k
      · exact ⟨j, hj, h2⟩
      · obtain rfl : j = k := by omega
        rw [← ih]
        obtain ⟨l, hl, hk⟩ := e
        refine ⟨l, hl, ?_⟩
        rename_i hM
        obtain ⟨r, _, hr⟩ := hM.each l hl
        obtain ⟨v', e1, e2⟩ := (hr j).1 hk
        obtain rfl : j = v' := by omega
        exact (hr v).2 ⟨v, rfl, hE.trans _ _ _ e2 h2⟩
  | @add k ls l _ e p q ih =>
    constructor
    · rintro ⟨m, hm, hv⟩
      rcases List.mem_append.1 hm with h | h
      · obtain ⟨j, h1, h2⟩ := ih.1 ⟨m, h, hv⟩; exact ⟨j, by omega, h2⟩
      · rw [List.mem_singleton.1 h] at hv
        obtain ⟨v', e1, e2⟩ := (q v).1 hv
        obtain rfl : v = v' := by omega
        exact ⟨k, by omega, e2⟩
    · rintro ⟨j, h1, h2⟩
      by_cases hj : j < k
      · obtain ⟨m, hm, hv⟩ := ih.2 ⟨j, hj, h2⟩
        exact ⟨m, List.mem_append_left _ hm, hv⟩
      · obtain rfl : j = k := by omega
        exact ⟨l, List.mem_append_right _ (by simp), (q v).2 ⟨v, rfl, h2⟩⟩
/-- The least numbers of the classes. -/
noncomputable def isRep (C : Nat → Nat → Prop) (j : Nat) : Bool := @decide (∀ i, i < j → ¬ C i j) (Classical.propDecidable _)
theorem isRep_iff {C : Nat → Nat → Prop} {j : Nat} : isRep C j = true ↔ ∀ i, i < j → ¬ C i j := by unfold isRep; exact @decide_eq_true_iff _ (Classical.propDecidable _)
noncomputable def reps (C : Nat → Nat → Prop) (k : Nat) : List Nat := (List.range k).filter (isRep C)
theorem MadeR.length {C : Nat → Nat → Prop} (hE : Eqv C) {k : Nat} {ls : List (List Int)} (h : MadeR C k ls) : ls.length = (reps C k).length := by
  induction h with
  | zero => rfl
  | @skip k ls hM e ih =>
    rw [ih]
    unfold reps
    rw [List.range_succ, List.filter_append]
    have : ¬ ∀ i, i < k → ¬ C i k := by
      obtain ⟨j, h1, h2⟩ := (hM.mem hE k).1 e
      exact fun h => h j h1 h2
    have hf : [k].filter (isRep C) = [] := by
      rw [List.filter_cons_of_neg (fun h => this (isRep_iff.1 h))]; rfl
    rw [List.length_append, hf]; rfl
  | @add k ls l hM e p q ih =>
    rw [List.length_append, ih]
    unfold reps
    rw [List.range_succ, List.filter_append]
    have : ∀ i, i < k → ¬ C i k := fun i hi hc => by
      obtain ⟨m, hm, hv⟩ := (hM.mem hE k).2 ⟨i, hi, hc⟩
      exact e m hm hv
    have hf : [k].filter (isRep C) = [k] := by
      rw [List.filter_cons_of_pos (isRep_iff.2 this)]; rfl
    rw [List.length_append, hf]; rfl
section
variable {C C' : Nat → Nat → Prop} {n : Nat} {ls ms : List (List Int)}
/-- Each block lies in one of the coarser ones. -/
theorem coarse_sub (hE' : Eqv C') (hs : ∀ a b, C a b → C' a b) (h : MadeR C n ls) (h' : MadeR C' n ms) : ∀ l ∈ ls, ∃ m ∈ ms, ∀ x ∈ l, x ∈ m := by
  intro l hl
  obtain ⟨r, hr, hx⟩ := h.each l hl
  obtain ⟨m, hm, hv⟩ := (h'.mem hE' r).2 ⟨r, hr, hE'.refl r⟩
  obtain ⟨q, _, hy⟩ := h'.each m hm
  obtain ⟨r', e1, e2⟩ := (hy r).1 hv
  obtain rfl : r = r' := by omega
  refine ⟨m, hm, fun x hxl => ?_⟩
  obtain ⟨v, e3, e4⟩ := (hx x).1 hxl
  exact (hy x).2 ⟨v, e3, hE'.trans _ _ _ e2 (hs _ _ e4)⟩
end
end Go.Sp
end
