/- Parts of the proof: SC2, SC3, PW1. -/
import Derived.Test.YtpkompfkhoceoaaGreatDoorMMO9
section
/- The harness's tape: numbers. -/
namespace Go.Proofs.Tg
open Go.RowKit Go.Gr Go.Bn Go.Rq
set_option maxHeartbeats 4000000
set_option maxRecDepth 100000
theorem TapeAt.four {V : World} {g b : Nat} {a' b' c' d' : Value} (h : TapeAt V g) (hb : g < b) : TapeAt ((((V.setCell ⟨b, 0, none⟩ a').setCell ⟨b, 1, none⟩ b').setCell ⟨b, 2, none⟩ c').setCell ⟨b, 3, none⟩ d') g := (((h.far hb _ _).far hb _ _).far hb _ _).far hb _ _
theorem Tk.four {w V : World} {g b : Nat} {a' b' c' d' : Value} (h : Tk g w V) (hb : w.heap.size ≤ b) : Tk g w ((((V.setCell ⟨b, 0, none⟩ a').setCell ⟨b, 1, none⟩ b').setCell ⟨b, 2, none⟩ c').setCell ⟨b, 3, none⟩ d') := (((h.far hb _ _).far hb _ _).far hb _ _).far hb _ _
theorem QAt.four {V : World} {g : Nat} {cs : Array Value} {v a' b' c' d' : Value} {q : Rat} {t : TypeId} (h : QAt V v q) (B : Blk V g t cs) (hne : t ≠ 137) : QAt ((((V.setCell ⟨g, 0, none⟩ a').setCell ⟨g, 1, none⟩ b').setCell ⟨g, 2, none⟩ c').setCell ⟨g, 3, none⟩ d') v q := by
  obtain ⟨N, cn, D, cd, e, h1, h2⟩ := h
  exact ⟨N, cn, D, cd, e, h1.four B hne, h2.four B hne⟩
theorem whole_any (g k : Nat) (w : World) (hT : TapeAt w g) (hk : k ≤ 1000) :
    Calls Tryz.prog 44 #[.pointer (some ⟨g, 0, none⟩), .int .i64 (k : Nat)] w (RetT g (fun v w' => ∃ z : Int, z.natAbs ≤ k ∧ QAt w' v (z : Rat)) w) := by
  obtain ⟨W, hW⟩ : ∃ W, w.alloc (.cells #[.bool false, .slice none 0 0, .bool false, .slice none 0 0] 52) = W := ⟨_, rfl⟩
  have hbA : Below w.heap.size w W := by rw [← hW]; exact (Below.refl _ _).alloc (Nat.le_refl _) _
  have B0 : Blk W w.heap.size 52 #[.bool false, .slice none 0 0, .bool false, .slice none 0 0] := by rw [← hW]; exact Blk.new _ _ _
  have hg := hT.lt
  have hTW := hT.keep hbA
  have HN : Hid (Calls Tryz.prog 16 #[.pointer (some ⟨g, 0, none⟩), .int .i64 (2 * (k : Int) + 1)] W (RetT g (fun v _ => ∃ j : Nat, j < 2 * k + 1 ∧ v = .int .i64 (j : Nat)) W)) := Lib.hid (by
    have := next_any g (2 * k + 1) W hTW (by omega) (by omega)
    rwa [show ((2 * k + 1 : Nat) : Int) = 2 * (k : Int) + 1 by omega] at this)
  have HR := Lib.hid (fun (z : Int) (hz : z.natAbs ≤ 1000) V => r_q z (by omega) (by omega) V)
  have HWW := Lib.hid hW
  have HB0 := Lib.hid B0
  clear hW hT hTW
  obtain ⟨a0, a1, a2, a3, f0, f1, f2, f3⟩ := B0.four
  go_enter Tryz.func44, Tryz.ntmps44
  go_upto_region 1 with (fail)
  rw [HWW.out]
  go_wp2_with (fail)
  refine HN.out.mono ?_
  rintro e w1 ⟨_, rfl, ⟨j, hj, rfl⟩, hT1, ht1⟩
  have B1 := B0.grown ht1 (by simp; omega)
  have htk := (Tk.of (g := g) hbA).trans ht1
  have w1r : IntKind.i64.wrap ((j : Int) - (k : Int)) = (j : Int) - (k : Int) := IntWalk.i64_in _ (by omega)
  obtain ⟨z, hz⟩ : ∃ z, (j : Int) - (k : Int) = z := ⟨_, rfl⟩
  rw [hz] at w1r
  have hzk : z.natAbs ≤ k := by omega
  clear a0 a1 a2 a3 f0 f1 f2 f3
  obtain ⟨a0, a1, a2, a3, f0, f1, f2, f3⟩ := B1.four
  have HB1 := Lib.hid B1
  have HT1 := Lib.hid hT1
  have HTK := Lib.hid htk
  have hsz := ht1.size
  clear HN ht1 hT1 htk B1
  go_wp2_with (fail)
  refine (HR.out z (by omega) w1).mono ?_
  rintro e w2 ⟨_, rfl, ⟨N, cn, D, cd, rfl, hN, hD⟩, hb2⟩
  have C := HB1.out.keep hb2 HB1.out.lt
  have hQ : QAt w2 (.agg #[.bool (decide ((z : Rat).num < 0)), .slice N (dg (z : Rat).num.natAbs).length cn, .bool false, .slice D (dg (dnz (z : Rat).den)).length cd]) (z : Rat) := ⟨N, cn, D, cd, rfl, hN, hD⟩
  clear a0 a1 a2 a3 f0 f1 f2 f3
  obtain ⟨a0, a1, a2, a3, f0, f1, f2, f3⟩ := C.four
  generalize decide ((z : Rat).num < 0) = s at *
  generalize (dg (z : Rat).num.natAbs).length = n at *
  generalize (dg (dnz (z : Rat).den)).length = m at *
  have HQ := Lib.hid hQ
  clear hQ hN hD
  go_wp2
  obtain ⟨g0, g1, g2, g3, _⟩ := (blk_four (a' := .bool s) (b' := .slice N n cn) (c' := .bool false) (d' := .slice D m cd) C).four
  refine bodyPost_ret (v := .agg #[.bool s, .slice N n cn, .bool false, .slice D m cd]) (by simp [results, Tryz.results44, go_sem, g0, g1, g2, g3]) rfl ⟨_, rfl, ⟨z, hzk, HQ.out.four C (by decide)⟩, (HT1.out.keep hb2).four hg, (HTK.out.then hb2).four (Nat.le_refl _)⟩
theorem num_any (g : Nat) (w : World) (hT : TapeAt w g) :
    Calls Tryz.prog 18 #[.pointer (some ⟨g, 0, none⟩)] w (RetT g (fun v w' => ∃ (n : Int) (d : Nat), n.natAbs ≤ 9 ∧ 1 ≤ d ∧ d ≤ 4 ∧ QAt w' v (mkRat n d)) w) := by
  obtain ⟨W, hW⟩ : ∃ W, w.alloc (.cells #[.bool false, .slice none 0 0, .bool false, .slice none 0 0] 52) = W := ⟨_, rfl⟩
  have hbA : Below w.heap.size w W := by rw [← hW]; exact (Below.refl _ _).alloc (Nat.le_refl _) _
  have B0 : Blk W w.heap.size 52 #[.bool false, .slice none 0 0, .bool false, .slice none 0 0] := by rw [← hW]; exact Blk.new _ _ _
  have hg := hT.lt
  have hTW := hT.keep hbA
  have HN : Hid (Calls Tryz.prog 16 #[.pointer (some ⟨g, 0, none⟩), .int .i64 19] W (RetT g (fun v _ => ∃ j : Nat, j < 19 ∧ v = .int .i64 (j : Nat)) W)) := Lib.hid (next_any g 19 W hTW (by omega) (by omega))
  have HN4 : Hid (∀ V, TapeAt V g → Calls Tryz.prog 16 #[.pointer (some ⟨g, 0, none⟩), .int .i64 4] V (RetT g (fun v _ => ∃ j : Nat, j < 4 ∧ v = .int .i64 (j : Nat)) V)) := Lib.hid (fun V h => next_any g 4 V h (by omega) (by omega))
  have HWW := Lib.hid hW
  clear hW hT hTW
  obtain ⟨a0, a1, a2, a3, f0, f1, f2, f3⟩ := B0.four
  go_enter Tryz.func18, Tryz.ntmps18
  go_upto_region 1 with (fail)
  rw [HWW.out]
  go_wp2_with (fail)
  refine HN.out.mono ?_
  rintro e w1 ⟨_, rfl, ⟨j, hj, rfl⟩, hT1, ht1⟩
  have B1 := B0.grown ht1 (by simp; omega)
  have htk := (Tk.of (g := g) hbA).trans ht1
  obtain ⟨z, hz⟩ : ∃ z, (j : Int) - 9 = z := ⟨_, rfl⟩
  have hz' : z = (j : Int) - 9 := hz.symm
  have hzk : z.natAbs ≤ 9 := by omega
  have w1r : IntKind.i64.wrap z = z := IntWalk.i64_in _ (by omega)
  have hln : (dg z.natAbs).length ≤ 100 := by have := dg_lo (n := z.natAbs) (k := 1) (by simp only [B]; omega); omega
  obtain ⟨s, hs⟩ : ∃ s, decide (z < 0) = s := ⟨_, rfl⟩
  obtain ⟨n, hn⟩ : ∃ n, (dg z.natAbs).length = n := ⟨_, rfl⟩
  have HF1 : Hid (Calls Tryz.prog 47 #[.int .i64 z] w1 fun e w' => ∃ R c, e = .returned (.agg #[.bool s, .slice R n c]) ∧ ND w' R c z.natAbs ∧ Below w1.heap.size w1 w') := Lib.hid (by
    have := fromint_num z (by omega) (by omega) w1
    unfold RetZ at this
    rwa [hs, hn] at this)
  have HFR : Hid (∀ V A c D d (m : Nat), ND V A c z.natAbs → ND V D d m → 1 ≤ m → m ≤ 4 → Calls Tryz.prog 46 #[.agg #[.bool s, .slice A n c], .agg #[.bool false, .slice D (dg m).length d]] V (RetQ (mkRat z m) V)) := Lib.hid (fun V A c D d m h h' h1 h2 => by
    have := frac_q z m A D c d V h h' (by omega) (by show m < 4294967296; omega) (by omega)
    rwa [hs, hn] at this)
  clear hs hn hz' hln
  clear a0 a1 a2 a3 f0 f1 f2 f3
  have hsz := ht1.size
  obtain ⟨cs0, BT1⟩ := hT1.blk
  clear HN ht1
  go_wp2_with (fail)
  refine HF1.out.mono ?_
  rintro e w2 ⟨R, c, rfl, hR, hb2⟩
  have hT2 := hT1.keep hb2
  obtain ⟨cs2, BT2⟩ := hT2.blk
  go_wp2_with (fail)
  refine (HN4.out w2 hT2).mono ?_
  rintro e w3 ⟨_, rfl, ⟨i, hi, rfl⟩, hT3, ht3⟩
  have hR3 := hR.tk ht3 BT2 (by decide)
  obtain ⟨m, hm⟩ : ∃ m : Nat, 1 + i = m := ⟨_, rfl⟩
  have hmI : (1 : Int) + (i : Int) = (m : Int) := by omega
  have hm1 : 1 ≤ m := by omega
  have hm4 : m ≤ 4 := by omega
  have HF2 : Hid (Calls Tryz.prog 47 #[.int .i64 (m : Int)] w3 fun e w' => ∃ R c, e = .returned (.agg #[.bool false, .slice R (dg m).length c]) ∧ ND w' R c m ∧ Below w3.heap.size w3 w') := Lib.hid (by
    have := fromint_num (m : Int) (by omega) (by omega) w3
    unfold RetZ at this
    rwa [decide_eq_false (show ¬ (m : Int) < 0 by omega), Int.natAbs_natCast] at this)
  obtain ⟨nm, hnm⟩ : ∃ nm, (dg m).length = nm := ⟨_, rfl⟩
  rw [hnm] at HF2
  have B3 := (B1.keep hb2 B1.lt).grown ht3 (by simp; omega)
  have htk3 := (htk.then hb2).trans ht3
  have HNM := Lib.hid hnm
  have hmw : IntKind.i64.wrap (m : Int) = (m : Int) := IntWalk.i64_in _ (by omega)
  clear hnm hm hR ht3 hT1 hT2 BT1 BT2 hb2
  go_wp2_with (fail)
  refine HF2.out.mono ?_
  rintro e w4 ⟨D, d, rfl, hD, hb4⟩
  have HFF := HFR.out w4 R c D d m (hR3.keep hb4) hD hm1 hm4
  rw [HNM.out] at HFF
  have HFF := Lib.hid HFF
  have B4 := B3.keep hb4 B3.lt
  have htk4 := htk3.then hb4
  have hT4 := hT3.keep hb4
  clear HFR HF2 HF1
  go_wp2_with (fail)
  refine HFF.out.mono ?_
  rintro e w5 ⟨_, rfl, ⟨N, cn, D', cd, rfl, hN, hD'⟩, hb5⟩
  have C := B4.keep hb5 B4.lt
  have hQ : QAt w5 (.agg #[.bool (decide ((mkRat z m).num < 0)), .slice N (dg (mkRat z m).num.natAbs).length cn, .bool false, .slice D' (dg (dnz (mkRat z m).den)).length cd]) (mkRat z m) := ⟨N, cn, D', cd, rfl, hN, hD'⟩
  obtain ⟨a0, a1, a2, a3, f0, f1, f2, f3⟩ := C.four
  generalize decide ((mkRat z m).num < 0) = s2 at *
  generalize (dg (mkRat z m).num.natAbs).length = n2 at *
  generalize (dg (dnz (mkRat z m).den)).length = m2 at *
  have HQ := Lib.hid hQ
  clear hQ hN hD'
  go_wp2
  obtain ⟨g0, g1, g2, g3, _⟩ := (blk_four (a' := .bool s2) (b' := .slice N n2 cn) (c' := .bool false) (d' := .slice D' m2 cd) C).four
  refine bodyPost_ret (v := .agg #[.bool s2, .slice N n2 cn, .bool false, .slice D' m2 cd]) (by simp [results, Tryz.results18, go_sem, g0, g1, g2, g3]) rfl ⟨_, rfl, ⟨z, m, hzk, hm1, hm4, HQ.out.four C (by decide)⟩, (hT4.keep hb5).four hg, (htk4.then hb5).four (Nat.le_refl _)⟩
theorem positive_any (g : Nat) (w : World) (hT : TapeAt w g) :
    Calls Tryz.prog 45 #[.pointer (some ⟨g, 0, none⟩)] w (RetT g (fun v w' => ∃ (n : Int) (d : Nat), 1 ≤ n ∧ n ≤ 9 ∧ 1 ≤ d ∧ d ≤ 4 ∧ QAt w' v (mkRat n d)) w) := by
  obtain ⟨W, hW⟩ : ∃ W, w.alloc (.cells #[.bool false, .slice none 0 0, .bool false, .slice none 0 0] 52) = W := ⟨_, rfl⟩
  have hbA : Below w.heap.size w W := by rw [← hW]; exact (Below.refl _ _).alloc (Nat.le_refl _) _
  have B0 : Blk W w.heap.size 52 #[.bool false, .slice none 0 0, .bool false, .slice none 0 0] := by rw [← hW]; exact Blk.new _ _ _
  have hg := hT.lt
  have hTW := hT.keep hbA
  have HN : Hid (Calls Tryz.prog 16 #[.pointer (some ⟨g, 0, none⟩), .int .i64 9] W (RetT g (fun v _ => ∃ j : Nat, j < 9 ∧ v = .int .i64 (j : Nat)) W)) := Lib.hid (next_any g 9 W hTW (by omega) (by omega))
  have HN4 : Hid (∀ V, TapeAt V g → Calls Tryz.prog 16 #[.pointer (some ⟨g, 0, none⟩), .int .i64 4] V (RetT g (fun v _ => ∃ j : Nat, j < 4 ∧ v = .int .i64 (j : Nat)) V)) := Lib.hid (fun V h => next_any g 4 V h (by omega) (by omega))
  have HWW := Lib.hid hW
  clear hW hT hTW
  obtain ⟨a0, a1, a2, a3, f0, f1, f2, f3⟩ := B0.four
  go_enter Tryz.func45, Tryz.ntmps45
  go_upto_region 1 with (fail)
  rw [HWW.out]
  go_wp2_with (fail)
  refine HN.out.mono ?_
  rintro e w1 ⟨_, rfl, ⟨j, hj, rfl⟩, hT1, ht1⟩
  have B1 := B0.grown ht1 (by simp; omega)
  have htk := (Tk.of (g := g) hbA).trans ht1
  obtain ⟨z, hz⟩ : ∃ z, 1 + (j : Int) = z := ⟨_, rfl⟩
  have hz' : z = 1 + (j : Int) := hz.symm
  have hzk : 1 ≤ z ∧ z ≤ 9 := by omega
  have w1r : IntKind.i64.wrap z = z := IntWalk.i64_in _ (by omega)
  have hln : (dg z.natAbs).length ≤ 100 := by have := dg_lo (n := z.natAbs) (k := 1) (by simp only [B]; omega); omega
  obtain ⟨s, hs⟩ : ∃ s, decide (z < 0) = s := ⟨_, rfl⟩
  obtain ⟨n, hn⟩ : ∃ n, (dg z.natAbs).length = n := ⟨_, rfl⟩
  have HF1 : Hid (Calls Tryz.prog 47 #[.int .i64 z] w1 fun e w' => ∃ R c, e = .returned (.agg #[.bool s, .slice R n c]) ∧ ND w' R c z.natAbs ∧ Below w1.heap.size w1 w') := Lib.hid (by
    have := fromint_num z (by omega) (by omega) w1
    unfold RetZ at this
    rwa [hs, hn] at this)
  have HFR : Hid (∀ V A c D d (m : Nat), ND V A c z.natAbs → ND V D d m → 1 ≤ m → m ≤ 4 → Calls Tryz.prog 46 #[.agg #[.bool s, .slice A n c], .agg #[.bool false, .slice D (dg m).length d]] V (RetQ (mkRat z m) V)) := Lib.hid (fun V A c D d m h h' h1 h2 => by
    have := frac_q z m A D c d V h h' (by omega) (by show m < 4294967296; omega) (by omega)
    rwa [hs, hn] at this)
  clear hs hn hz' hln
  clear a0 a1 a2 a3 f0 f1 f2 f3
  have hsz := ht1.size
  obtain ⟨cs0, BT1⟩ := hT1.blk
  clear HN ht1
  go_wp2_with (fail)
  refine HF1.out.mono ?_
  rintro e w2 ⟨R, c, rfl, hR, hb2⟩
  have hT2 := hT1.keep hb2
  obtain ⟨cs2, BT2⟩ := hT2.blk
  go_wp2_with (fail)
  refine (HN4.out w2 hT2).mono ?_
  rintro e w3 ⟨_, rfl, ⟨i, hi, rfl⟩, hT3, ht3⟩
  have hR3 := hR.tk ht3 BT2 (by decide)
  obtain ⟨m, hm⟩ : ∃ m : Nat, 1 + i = m := ⟨_, rfl⟩
  have hmI : (1 : Int) + (i : Int) = (m : Int) := by omega
  have hm1 : 1 ≤ m := by omega
  have hm4 : m ≤ 4 := by omega
  have HF2 : Hid (Calls Tryz.prog 47 #[.int .i64 (m : Int)] w3 fun e w' => ∃ R c, e = .returned (.agg #[.bool false, .slice R (dg m).length c]) ∧ ND w' R c m ∧ Below w3.heap.size w3 w') := Lib.hid (by
    have := fromint_num (m : Int) (by omega) (by omega) w3
    unfold RetZ at this
    rwa [decide_eq_false (show ¬ (m : Int) < 0 by omega), Int.natAbs_natCast] at this)
  obtain ⟨nm, hnm⟩ : ∃ nm, (dg m).length = nm := ⟨_, rfl⟩
  rw [hnm] at HF2
  have B3 := (B1.keep hb2 B1.lt).grown ht3 (by simp; omega)
  have htk3 := (htk.then hb2).trans ht3
  have HNM := Lib.hid hnm
  have hmw : IntKind.i64.wrap (m : Int) = (m : Int) := IntWalk.i64_in _ (by omega)
  clear hnm hm hR ht3 hT1 hT2 BT1 BT2 hb2
  go_wp2_with (fail)
  refine HF2.out.mono ?_
  rintro e w4 ⟨D, d, rfl, hD, hb4⟩
  have HFF := HFR.out w4 R c D d m (hR3.keep hb4) hD hm1 hm4
  rw [HNM.out] at HFF
  have HFF := Lib.hid HFF
  have B4 := B3.keep hb4 B3.lt
  have htk4 := htk3.then hb4
  have hT4 := hT3.keep hb4
  clear HFR HF2 HF1
  go_wp2_with (fail)
  refine HFF.out.mono ?_
  rintro e w5 ⟨_, rfl, ⟨N, cn, D', cd, rfl, hN, hD'⟩, hb5⟩
  have C := B4.keep hb5 B4.lt
  have hQ : QAt w5 (.agg #[.bool (decide ((mkRat z m).num < 0)), .slice N (dg (mkRat z m).num.natAbs).length cn, .bool false, .slice D' (dg (dnz (mkRat z m).den)).length cd]) (mkRat z m) := ⟨N, cn, D', cd, rfl, hN, hD'⟩
  obtain ⟨a0, a1, a2, a3, f0, f1, f2, f3⟩ := C.four
  generalize decide ((mkRat z m).num < 0) = s2 at *
  generalize (dg (mkRat z m).num.natAbs).length = n2 at *
  generalize (dg (dnz (mkRat z m).den)).length = m2 at *
  have HQ := Lib.hid hQ
  clear hQ hN hD'
  go_wp2
  obtain ⟨g0, g1, g2, g3, _⟩ := (blk_four (a' := .bool s2) (b' := .slice N n2 cn) (c' := .bool false) (d' := .slice D' m2 cd) C).four
  refine bodyPost_ret (v := .agg #[.bool s2, .slice N n2 cn, .bool false, .slice D' m2 cd]) (by simp [results, Tryz.results45, go_sem, g0, g1, g2, g3]) rfl ⟨_, rfl, ⟨z, m, hzk.1, hzk.2, hm1, hm4, HQ.out.four C (by decide)⟩, (hT4.keep hb5).four hg, (htk4.then hb5).four (Nat.le_refl _)⟩
end Go.Proofs.Tg
end
section
/- Rows of rational numbers of the harness. -/
namespace Go.Proofs.Tg
open Go.RowKit Go.Gr Go.Bn Go.Rq
set_option maxHeartbeats 4000000
set_option maxRecDepth 100000
/-- A rational number and where its digits lie. -/
structure RVal where
  q : Rat
  N : Option Addr
  cn : Nat
  D : Option Addr
  cd : Nat
def RVal.cells (r : RVal) : List Value := [.bool (decide (r.q.num < 0)), .slice r.N (dg r.q.num.natAbs).length r.cn, .bool false, .slice r.D (dg (dnz r.q.den)).length r.cd]
def RVal.val (r : RVal) : Value := .agg #[.bool (decide (r.q.num < 0)), .slice r.N (dg r.q.num.natAbs).length r.cn, .bool false, .slice r.D (dg (dnz r.q.den)).length r.cd]
structure RVal.Ok (w : World) (r : RVal) : Prop where
  num : ND w r.N r.cn r.q.num.natAbs
  den : ND w r.D r.cd (dnz r.q.den)
theorem RVal.cells_len (r : RVal) : r.cells.length = 4 := rfl
theorem QAt.rval {w : World} {v : Value} {q : Rat} (h : QAt w v q) : ∃ r : RVal, r.q = q ∧ v = r.val ∧ r.Ok w := by
  obtain ⟨N, cn, D, cd, e, h1, h2⟩ := h
  exact ⟨⟨q, N, cn, D, cd⟩, rfl, e, h1, h2⟩
theorem RVal.Ok.at {w : World} {r : RVal} (h : r.Ok w) : QAt w r.val r.q := ⟨r.N, r.cn, r.D, r.cd, rfl, h.num, h.den⟩
theorem RVal.Ok.keep {w w' : World} {r : RVal} (h : r.Ok w) (hb : Below w.heap.size w w') : r.Ok w' := ⟨h.num.keep hb, h.den.keep hb⟩
theorem RVal.Ok.tk {w w' : World} {r : RVal} {g : Nat} {t : TypeId} {cs : Array Value} (h : r.Ok w) (hg : Tk g w w') (B : Blk w g t cs) (hne : t ≠ 137) : r.Ok w' := ⟨h.num.tk hg B hne, h.den.tk hg B hne⟩
theorem ND.grown {w w' : World} {A : Option Addr} {c k b sz n : Nat} {ys : List Value} {t : TypeId} {v : Value} (h : ND w A c k) (ho : w.ownsRow b t sz v n ys) (hg : w.grownBy w' v.ownBlock) (hne : t ≠ 137) : ND w' A c k := ⟨h.digs.grown ho hg hne, h.cap, h.nilc⟩
theorem RVal.Ok.grown {w w' : World} {r : RVal} {b sz n : Nat} {ys : List Value} {t : TypeId} {v : Value} (h : r.Ok w) (ho : w.ownsRow b t sz v n ys) (hg : w.grownBy w' v.ownBlock) (hne : t ≠ 137) : r.Ok w' := ⟨h.num.grown ho hg hne, h.den.grown ho hg hne⟩
theorem RVal.Ok.far {w : World} {r : RVal} {g : Nat} {t : TypeId} {cs : Array Value} (h : r.Ok w) (B : Blk w g t cs) (hne : t ≠ 137) (i : Nat) (u : Value) : r.Ok (w.setCell ⟨g, i, none⟩ u) := ⟨h.num.far B hne i u, h.den.far B hne i u⟩
/-- A row of rational numbers of the call's own. -/
structure OwnQ (base : Nat) (w : World) (A : Option Addr) (c : Nat) (rs : List RVal) : Prop where
  own : w.ownsRow base 52 4 (.slice A rs.length c) rs.length (rs.flatMap RVal.cells)
  ok : ∀ r ∈ rs, r.Ok w
theorem OwnQ.nil (base : Nat) (w : World) : OwnQ base w none 0 [] := ⟨World.ownsRow_nil _ _ _ _, fun r h => absurd h (by simp)⟩
theorem OwnQ.keep {base : Nat} {w w' : World} {A : Option Addr} {c : Nat} {rs : List RVal} (h : OwnQ base w A c rs) (hb : Below w.heap.size w w') : OwnQ base w' A c rs :=
  ⟨own_below h.own hb (Nat.le_refl _), fun r hr => (h.ok r hr).keep hb⟩
theorem OwnQ.tk {base g : Nat} {w w' : World} {A : Option Addr} {c : Nat} {rs : List RVal} {t : TypeId} {cs : Array Value} (h : OwnQ base w A c rs) (hg : Tk g w w') (hb : g < base) (B : Blk w g t cs) (hne : t ≠ 137) : OwnQ base w' A c rs :=
  ⟨own_tk h.own hg hb, fun r hr => (h.ok r hr).tk hg B hne⟩
theorem OwnQ.mono {base base' : Nat} {w : World} {A : Option Addr} {c : Nat} {rs : List RVal} (h : OwnQ base w A c rs) (hb : base' ≤ base) : OwnQ base' w A c rs := ⟨own_base h.own hb, h.ok⟩
theorem OwnQ.push {base : Nat} {w w' : World} {A : Option Addr} {c : Nat} {rs : List RVal} {r : RVal} {A' : Option Addr} {c' : Nat} (h : OwnQ base w A c rs) (hr : r.Ok w) (hg : w.grownBy w' (Value.slice A rs.length c).ownBlock)
    (h' : w'.ownsRow base 52 4 (.slice A' (rs.length + 1) c') (rs.length + 1) (rs.flatMap RVal.cells ++ r.cells)) : OwnQ base w' A' c' (rs ++ [r]) := by
  refine ⟨?_, fun x hx => ?_⟩
  · rw [List.length_append, List.flatMap_append]
    simpa using h'
  · rcases List.mem_append.1 hx with hx | hx
    · exact (h.ok x hx).grown h.own hg (by decide)
    · rw [List.mem_singleton.1 hx]; exact hr.grown h.own hg (by decide)
/-- Another row grows. -/
theorem OwnQ.other {base b sz n : Nat} {w w' : World} {A : Option Addr} {c : Nat} {rs : List RVal} {ys : List Value} {t : TypeId} {v : Value} (h : OwnQ base w A c rs) (ho : w.ownsRow b t sz v n ys) (hg : w.grownBy w' v.ownBlock) (hne : t ≠ 137) (hne2 : 52 ≠ t) : OwnQ base w' A c rs :=
  ⟨h.own.kept hg (own_ne h.own ho hne2), fun r hr => (h.ok r hr).grown ho hg hne⟩
theorem TapeAt.grown {base g sz n : Nat} {w w' : World} {t : TypeId} {v : Value} {ys : List Value} (h : TapeAt w g) (ho : w.ownsRow base t sz v n ys) (hb : g < base) (hg : w.grownBy w' v.ownBlock) : TapeAt w' g := by
  have hk : ∀ k, k ≤ g → some k ≠ v.ownBlock := fun k hk e => by have := (ho.lt _ e.symm).1; omega
  obtain ⟨A, c, k, xs, B, hS, hO, r⟩ := h.ex
  refine ⟨A, c, k, xs, B.grown hg (hk g (Nat.le_refl _)), ⟨hS.len, fun hp => ?_⟩, hO, r⟩
  obtain ⟨ad, e, hlt, ha⟩ := hS.lies hp
  exact ⟨ad, e, Nat.lt_of_lt_of_le hlt hg.size, fun j u hu => hg.cell (ha j u hu) (by rw [add_block]; exact hk _ (Nat.le_of_lt (hO hp ad e)))⟩
theorem Tk.grown {g base sz n : Nat} {w V V' : World} {t : TypeId} {v : Value} {ys : List Value} (h : Tk g w V) (ho : V.ownsRow base t sz v n ys) (hb : w.heap.size ≤ base) (hg : V.grownBy V' v.ownBlock) : Tk g w V' :=
  ⟨hg.os.trans h.os, hg.tape.trans h.tape, hg.output.trans h.output, Nat.le_trans h.size hg.size, fun k hk hkg => (hg.block k (Nat.lt_of_lt_of_le hk h.size) (fun e => by have := (ho.lt _ e.symm).1; omega)).trans (h.block k hk hkg)⟩
theorem rat_info : (Tryz.prog.info? 52).map (fun i => (i.zero, i.size, i.bytes)) = some (some (.agg #[.bool false, .slice none 0 0, .bool false, .slice none 0 0]), 4, 64) := by kernel_rfl
theorem qrow_info : (Tryz.prog.info? 27).map (fun i => (i.zero, i.size, i.bytes)) = some (some (.slice none 0 0), 1, 24) := by kernel_rfl
theorem OwnQ.at {base : Nat} {w : World} {A : Option Addr} {c : Nat} {rs : List RVal} (h : OwnQ base w A c rs) {k : Nat} (hk : k < rs.length) : ∃ ad, A = some ad ∧ ∀ j u, rs[k].cells[j]? = some u → w.cell? (ad.add (k * 4 + j)) = some u := by
  have hS := Sl.own h.own
  obtain ⟨ad, e, hlt, ha⟩ := hS.lies (by omega)
  refine ⟨ad, e, fun j u hu => ha _ _ ?_⟩
  have hj : j < 4 := (List.getElem?_eq_some_iff.1 hu).1
  clear ha hS h
  induction rs generalizing k with
  | nil => exact absurd hk (by simp)
  | cons r rs ih =>
    cases k with
    | zero =>
      rw [List.flatMap_cons, List.getElem?_append_left (by rw [RVal.cells_len]; omega)]
      simpa using hu
    | succ k =>
      rw [List.flatMap_cons, List.getElem?_append_right (by rw [RVal.cells_len]; omega), RVal.cells_len]
      have : (k + 1) * 4 + j - 4 = k * 4 + j := by omega
      rw [this]
      exact ih (by simpa using hk) (by simpa using hu)
end Go.Proofs.Tg
end
section
/- The reference's powers of integers. -/
namespace Go.Proofs.Tg
open Go.RowKit Go.Gr Go.Bn Go.Rq
set_option maxHeartbeats 8000000
set_option maxRecDepth 100000
/-- A block that holds a rational number. -/
structure RBlk (w : World) (g : Nat) (r : RVal) : Prop where
  b : Blk w g 52 #[.bool (decide (r.q.num < 0)), .slice r.N (dg r.q.num.natAbs).length r.cn, .bool false, .slice r.D (dg (dnz r.q.den)).length r.cd]
  ok : r.Ok w
theorem RBlk.keep {w w' : World} {g : Nat} {r : RVal} (h : RBlk w g r) (hb : Below w.heap.size w w') : RBlk w' g r := ⟨h.b.keep hb h.b.lt, h.ok.keep hb⟩
theorem int_bound {z : Int} {s : Nat} (hz : z.natAbs ≤ 16) (hs : s ≤ 128) : QS ((z : Rat) ^ s) := by
  have e : (z : Rat) ^ s = ((z ^ s : Int) : Rat) := by rw [Rat.intCast_pow]
  rw [e]
  refine ⟨?_, (by show 1 < 65536; decide)⟩
  show (z ^ s).natAbs < B ^ 40
  rw [Int.natAbs_pow]
  refine Nat.lt_of_le_of_lt (Nat.pow_le_pow_left hz s) ?_
  exact Nat.lt_of_le_of_lt (Nat.pow_le_pow_right (by omega) hs) (by decide)
theorem RetQ.rval {q : Rat} {w : World} {e : Ending} {w' : World} (h : RetQ q w e w') : ∃ r : RVal, r.q = q ∧ e = .returned r.val ∧ r.Ok w' ∧ Below w.heap.size w w' := by
  obtain ⟨v, rfl, hv, hb⟩ := h
  obtain ⟨r, h1, rfl, h3⟩ := hv.rval
  exact ⟨r, h1, rfl, h3, hb⟩
theorem rat_pow_add (q : Rat) (a : Nat) : ∀ b, q ^ (a + b) = q ^ a * q ^ b
  | 0 => by rw [Nat.add_zero, Rat.pow_zero, Rat.mul_one]
  | b + 1 => by rw [← Nat.add_assoc, Rat.pow_succ, rat_pow_add q a b, Rat.pow_succ, Rat.mul_assoc]
theorem RVal.Ok.four {V : World} {g : Nat} {r : RVal} {cs : Array Value} {a' b' c' d' : Value} {t : TypeId} (h : r.Ok V) (B : Blk V g t cs) (hne : t ≠ 137) : r.Ok ((((V.setCell ⟨g, 0, none⟩ a').setCell ⟨g, 1, none⟩ b').setCell ⟨g, 2, none⟩ c').setCell ⟨g, 3, none⟩ d') := ⟨h.num.four B hne, h.den.four B hne⟩
theorem RBlk.put {V : World} {g : Nat} {r : RVal} {a b c d : Value} (B : Blk V g 52 #[a, b, c, d]) (ok : r.Ok V) : RBlk ((((V.setCell ⟨g, 0, none⟩ (.bool (decide (r.q.num < 0)))).setCell ⟨g, 1, none⟩ (.slice r.N (dg r.q.num.natAbs).length r.cn)).setCell ⟨g, 2, none⟩ (.bool false)).setCell ⟨g, 3, none⟩ (.slice r.D (dg (dnz r.q.den)).length r.cd)) g r :=
  ⟨blk_four B, ok.four B (by decide)⟩
theorem RBlk.oth {V : World} {g g' : Nat} {r : RVal} {cs : Array Value} {a' b' c' d' : Value} (h : RBlk V g' r) (B : Blk V g 52 cs) (hne : g' ≠ g) : RBlk ((((V.setCell ⟨g, 0, none⟩ a').setCell ⟨g, 1, none⟩ b').setCell ⟨g, 2, none⟩ c').setCell ⟨g, 3, none⟩ d') g' r :=
  ⟨(((h.b.far (by simpa using hne) _).far (by simpa using hne) _).far (by simpa using hne) _).far (by simpa using hne) _, h.ok.four B (by decide)⟩
/-- What the loop of Power holds. -/
structure PwrSt (w : World) (z : Int) (n g5 : Nat) (wr : World) (e s r : Nat) (rx ry : RVal) : Prop where
  below : Below w.heap.size w wr
  bx : RBlk wr w.heap.size rx
  by_ : RBlk wr g5 ry
  bz : Blk wr (w.heap.size + 1) 52 #[.bool false, .slice none 0 0, .bool false, .slice none 0 0]
  qx : rx.q = (z : Rat) ^ s
  qy : ry.q = (z : Rat) ^ r
  sum : r + s * e = n
  sle : s ≤ 2 * n + 1
  slt : 0 < e → s ≤ n
theorem power_q (z : Int) (n : Nat) (v : Value) (w : World) (hv : QAt w v (z : Rat)) (hz : z.natAbs ≤ 16) (hn : n ≤ 60) :
    Calls Tryz.prog 90 #[v, .int .i64 (n : Nat)] w (RetQ ((z : Rat) ^ n) w) := by
  obtain ⟨r0, hr0, rfl, hok0⟩ := hv.rval
  have HMU := Lib.hid (fun (p q : RVal) V (hp : p.Ok V) (hq : q.Ok V) (h1 : QS p.q) (h2 : QS q.q) => (rmul_q p.q q.q p.val q.val V hp.at hq.at h1 h2).mono fun _ _ h => h.rval)
  have HIB := Lib.hid (fun s (h : s ≤ 128) => int_bound hz h)
  obtain ⟨W, hW⟩ : ∃ W, (w.alloc (.cells #[.bool (decide (r0.q.num < 0)), .slice r0.N (dg r0.q.num.natAbs).length r0.cn, .bool false, .slice r0.D (dg (dnz r0.q.den)).length r0.cd] 52)).alloc (.cells #[.bool false, .slice none 0 0, .bool false, .slice none 0 0] 52) = W := ⟨_, rfl⟩
  have hbW : Below w.heap.size w W := by rw [← hW]; exact ((Below.refl _ _).alloc (Nat.le_refl _) _).alloc (by simp) _
  have hX : RBlk W w.heap.size r0 := ⟨by rw [← hW]; exact (Blk.new _ _ _).alloc _, hok0.keep hbW⟩
  have hZ : Blk W (w.heap.size + 1) 52 #[.bool false, .slice none 0 0, .bool false, .slice none 0 0] := by
    rw [← hW]
    have := Blk.new (w.alloc (.cells #[.bool (decide (r0.q.num < 0)), .slice r0.N (dg r0.q.num.natAbs).length r0.cn, .bool false, .slice r0.D (dg (dnz r0.q.den)).length r0.cd] 52)) 52 #[.bool false, .slice none 0 0, .bool false, .slice none 0 0]
    simpa using this
  have HR1 := Lib.hid (fun V => (r_q 1 (by decide) (by decide) V).mono fun _ _ h => h.rval)
  have HX := Lib.hid hX
  have HZ := Lib.hid hZ
  have HBW := Lib.hid hbW
  have HWW := Lib.hid hW
  have HR0 := Lib.hid hr0
  clear hW hX hZ hok0 hr0 hv
  try unfold RVal.val
  generalize hs1 : decide (r0.q.num < 0) = s1 at *
  generalize hn1 : (dg r0.q.num.natAbs).length = n1 at *
  generalize hn2 : (dg (dnz r0.q.den)).length = n2 at *
  clear hs1 hn1 hn2
  go_enter Tryz.func90, Tryz.ntmps90
  go_upto_region 1 with (fail)
  rw [HWW.out]
  go_wp2_with (fail)
  refine (HR1.out W).mono ?_
  rintro e w1 ⟨r1, hq1, rfl, hok1, hb1⟩
  have HST : Hid (∀ W1, W1 = w1.alloc (.cells #[.bool (decide (r1.q.num < 0)), .slice r1.N (dg r1.q.num.natAbs).length r1.cn, .bool false, .slice r1.D (dg (dnz r1.q.den)).length r1.cd] 52) → PwrSt w z n w1.heap.size W1 n 1 0 r0 r1) := Lib.hid (fun W1 e => by
    subst e
    have hal := Below.alloc (Below.refl w1.heap.size w1) (Nat.le_refl _) (.cells #[.bool (decide (r1.q.num < 0)), .slice r1.N (dg r1.q.num.natAbs).length r1.cn, .bool false, .slice r1.D (dg (dnz r1.q.den)).length r1.cd] 52)
    refine ⟨below_all (below_all HBW.out hb1) hal, (HX.out.keep hb1).keep hal, ⟨Blk.new _ _ _, hok1.keep hal⟩, (HZ.out.keep hb1 HZ.out.lt).alloc _, ?_, ?_, by omega, by omega, fun h => h⟩
    · rw [HR0.out, Rat.pow_one]
    · rw [hq1, Rat.pow_zero]; rfl)
  have hg5 : w.heap.size + 1 < w1.heap.size := by have := HZ.out.lt; have := hb1.size; omega
  have hwz : w.heap.size < w1.heap.size := by omega
  clear hok1 hb1 hq1 HX HZ HR1
  try unfold RVal.val
  generalize decide (r1.q.num < 0) = s2 at *
  generalize (dg r1.q.num.natAbs).length = m1 at *
  generalize (dg (dnz r1.q.den)).length = m2 at *
  generalize r1.N = rN1 at *
  generalize r1.D = rD1 at *
  generalize r1.cn = rcn1 at *
  generalize r1.cd = rcd1 at *
  go_wp2
  obtain ⟨g5, hg5e⟩ : ∃ g, w1.heap.size = g := ⟨_, rfl⟩
  rw [hg5e] at HST hg5 hwz ⊢
  go_loopw [1] (fun st wr => ∃ (e0 s0 k0 : Nat) (rx ry : RVal), st = .int .i64 (e0 : Nat) ∧ e0 ≤ n ∧ Hid (PwrSt w z n g5 wr e0 s0 k0 rx ry)) (fun st _ => (intOf st).toNat)
  case atStart => exact ⟨n, 1, 0, r0, r1, rfl, Nat.le_refl _, Lib.hid (HST.out _ rfl)⟩
  case round =>
    clear HST hg5e
    obtain ⟨wo, rfl⟩ : ∃ wo : World, wo = wr := ⟨_, rfl⟩
    obtain ⟨e0, s0, k0, rx, ry, rfl, he, HST⟩ := hrel
    by_cases h0 : e0 = 0
    · subst h0
      have hk : k0 = n := by have := HST.out.sum; simpa using this
      have hY := HST.out.by_
      have hZ := HST.out.bz
      obtain ⟨u0, u1, u2, u3, f0, f1, f2, f3⟩ := hY.b.four
      obtain ⟨z0, z1, z2, z3, g0, g1, g2, g3⟩ := hZ.four
      have HZB := Lib.hid hZ
      have HRES : Hid (RetQ ((z : Rat) ^ n) w (.returned ry.val) ((((wo.setCell ⟨w.heap.size + 1, 0, none⟩ (.bool (decide (ry.q.num < 0)))).setCell ⟨w.heap.size + 1, 1, none⟩ (.slice ry.N (dg ry.q.num.natAbs).length ry.cn)).setCell ⟨w.heap.size + 1, 2, none⟩ (.bool false)).setCell ⟨w.heap.size + 1, 3, none⟩ (.slice ry.D (dg (dnz ry.q.den)).length ry.cd))) := Lib.hid (by
        have hp := RBlk.put hZ hY.ok
        refine ⟨_, rfl, ?_, Below.four HST.out.below (by omega)⟩
        have h3 := hp.ok.at
        have e1 : (z : Rat) ^ n = ry.q := by rw [HST.out.qy, hk]
        rw [e1]
        exact h3)
      unfold RVal.val at HRES
      clear hY hZ hk
      generalize decide (ry.q.num < 0) = sy at *
      generalize (dg ry.q.num.natAbs).length = ny at *
      generalize (dg (dnz ry.q.den)).length = my at *
      generalize ry.N = Ny at *
      generalize ry.D = Dy at *
      generalize ry.cn = cny at *
      generalize ry.cd = cdy at *
      go_wp2
      obtain ⟨p0, p1, p2, p3, _⟩ := (blk_four (a' := .bool sy) (b' := .slice Ny ny cny) (c' := .bool false) (d' := .slice Dy my cdy) HZB.out).four
      exact bodyPost_ret (v := .agg #[.bool sy, .slice Ny ny cny, .bool false, .slice Dy my cdy]) (by simp [results, Tryz.results90, go_sem, p0, p1, p2, p3]) rfl HRES.out
    · have he0 : 0 < e0 := by omega
      have hsl := HST.out.slt he0
      have d0 : decide ((0 : Int) < (e0 : Int)) = true := decide_eq_true (by omega)
      have d0' : decide (0 < e0) = true := decide_eq_true he0
      have hkn : k0 ≤ n := by have := HST.out.sum; omega
      have hqx : QS rx.q := by rw [HST.out.qx]; exact HIB.out _ (by omega)
      have hqy : QS ry.q := by rw [HST.out.qy]; exact HIB.out _ (by omega)
      have hmod : Int.tmod (e0 : Int) 2 = ((e0 % 2 : Nat) : Int) := by rw [show (2 : Int) = ((2 : Nat) : Int) from rfl, Int.ofNat_tmod]
      have hdiv : Int.tdiv (e0 : Int) 2 = ((e0 / 2 : Nat) : Int) := by rw [show (2 : Int) = ((2 : Nat) : Int) from rfl, ← Int.ofNat_tdiv]
      have hw1 : IntKind.i64.wrap ((e0 / 2 : Nat) : Int) = ((e0 / 2 : Nat) : Int) := IntWalk.i64_in _ (by omega)
      have hw2 : IntKind.i64.wrap ((e0 % 2 : Nat) : Int) = ((e0 % 2 : Nat) : Int) := IntWalk.i64_in _ (by omega)
      obtain ⟨eh, heh⟩ : ∃ x, e0 / 2 = x := ⟨_, rfl⟩
      rw [heh] at hdiv hw1
      have hel : eh < e0 := by omega
      have HX := Lib.hid HST.out.bx
      have HY := Lib.hid HST.out.by_
      obtain ⟨x0, x1, x2, x3, h0', h1', h2', h3'⟩ := HST.out.bx.b.four
      have hgx : w.heap.size ≠ g5 := by omega
      have hgz : w.heap.size + 1 ≠ g5 := by omega
      by_cases hpar : e0 % 2 = 1
      · have hm1 : e0 % 2 = 1 := by omega
        rw [hm1] at hmod hw2
        have h1b : ((1 : Int) == 1) = true := rfl
        obtain ⟨y0, y1, y2, y3, k0', k1', k2', k3'⟩ := HST.out.by_.b.four
        have HYX := Lib.hid (HMU.out ry rx wo HST.out.by_.ok HST.out.bx.ok hqy hqx)
        have HXX := Lib.hid (fun V (h : rx.Ok V) => HMU.out rx rx V h h hqx hqx)
        have HA : Hid (∀ (w3 : World) (r3 : RVal), r3.q = ry.q * rx.q → r3.Ok w3 → Below wo.heap.size wo w3 → ∀ W3, W3 = ((((w3.setCell ⟨g5, 0, none⟩ (.bool (decide (r3.q.num < 0)))).setCell ⟨g5, 1, none⟩ (.slice r3.N (dg r3.q.num.natAbs).length r3.cn)).setCell ⟨g5, 2, none⟩ (.bool false)).setCell ⟨g5, 3, none⟩ (.slice r3.D (dg (dnz r3.q.den)).length r3.cd)) → RBlk W3 w.heap.size rx ∧ RBlk W3 g5 r3 ∧ Below w.heap.size w W3 ∧ Blk W3 (w.heap.size + 1) 52 #[.bool false, .slice none 0 0, .bool false, .slice none 0 0] ∧ r3.q = (z : Rat) ^ (k0 + s0)) := Lib.hid (fun w3 r3 hq3 hok3 hb3 W3 e3 => by
          subst e3
          have hY3 := HST.out.by_.keep hb3
          have hX3 := HST.out.bx.keep hb3
          have hZ3 := HST.out.bz.keep hb3 HST.out.bz.lt
          refine ⟨hX3.oth hY3.b hgx, RBlk.put hY3.b hok3, Below.four (below_all HST.out.below hb3) (by omega), ?_, ?_⟩
          · exact (((hZ3.far (by simpa using hgz) _).far (by simpa using hgz) _).far (by simpa using hgz) _).far (by simpa using hgz) _
          · rw [hq3, HST.out.qy, HST.out.qx, ← rat_pow_add])
        have HB : Hid (∀ (W3 w5 : World) (r3 r5 : RVal), RBlk W3 w.heap.size rx → RBlk W3 g5 r3 → Below w.heap.size w W3 → Blk W3 (w.heap.size + 1) 52 #[.bool false, .slice none 0 0, .bool false, .slice none 0 0] → r3.q = (z : Rat) ^ (k0 + s0) → r5.q = rx.q * rx.q → r5.Ok w5 → Below W3.heap.size W3 w5 → PwrSt w z n g5 ((((w5.setCell ⟨w.heap.size, 0, none⟩ (.bool (decide (r5.q.num < 0)))).setCell ⟨w.heap.size, 1, none⟩ (.slice r5.N (dg r5.q.num.natAbs).length r5.cn)).setCell ⟨w.heap.size, 2, none⟩ (.bool false)).setCell ⟨w.heap.size, 3, none⟩ (.slice r5.D (dg (dnz r5.q.den)).length r5.cd)) eh (s0 + s0) (k0 + s0) r5 r3) := Lib.hid (fun W3 w5 r3 r5 a1 a2 a3 a4 a5 a6 a7 hb5 => by
          have hX5 := a1.keep hb5
          have hY5 := a2.keep hb5
          refine ⟨Below.four (below_all a3 hb5) (Nat.le_refl _), RBlk.put hX5.b a7, hY5.oth hX5.b (by omega), ?_, ?_, a5, ?_, by omega, ?_⟩
          · have hz := a4.keep hb5 a4.lt
            exact (((hz.far (by simp) _).far (by simp) _).far (by simp) _).far (by simp) _
          · rw [a6, HST.out.qx, ← rat_pow_add]
          · have h1 := HST.out.sum
            have h2 : e0 = 2 * eh + 1 := by omega
            rw [h2, Nat.mul_add, ← Nat.mul_assoc] at h1
            rw [← h1, Nat.add_mul, Nat.mul_comm s0 2, Nat.mul_assoc 2 s0 eh, Nat.mul_one]
            omega
          · intro h
            have h1 := HST.out.sum
            have h2 : s0 * 2 ≤ s0 * e0 := Nat.mul_le_mul_left _ (by omega)
            omega)
        have HXO := Lib.hid HST.out.bx.ok
        clear hqx hqy h0
        unfold RVal.val at HYX HXX
        generalize decide (ry.q.num < 0) = sy at *
        generalize (dg ry.q.num.natAbs).length = ny at *
        generalize (dg (dnz ry.q.den)).length = my at *
        generalize ry.N = Ny at *
        generalize ry.D = Dy at *
        generalize ry.cn = cny at *
        generalize ry.cd = cdy at *
        generalize hsx : decide (rx.q.num < 0) = sx at *
        generalize hnx : (dg rx.q.num.natAbs).length = nx at *
        generalize hmx : (dg (dnz rx.q.den)).length = mx at *
        generalize hNx : rx.N = Nx at *
        generalize hDx : rx.D = Dx at *
        generalize hcnx : rx.cn = cnx at *
        generalize hcdx : rx.cd = cdx at *
        have HSX := Lib.hid (And.intro hsx (And.intro hnx (And.intro hmx (And.intro hNx (And.intro hDx (And.intro hcnx hcdx))))))
        clear hsx hnx hmx hNx hDx hcnx hcdx
        go_wp2_with (fail)
        refine HYX.out.mono ?_
        rintro e w3 ⟨r3, hq3, rfl, hok3, hb3⟩
        have hA := Lib.hid (HA.out w3 r3 hq3 hok3 hb3)
        have hY3 := HY.out.keep hb3
        clear hq3
        clear x0 x1 x2 x3 h0' h1' h2' h3' y0 y1 y2 y3 k0' k1' k2' k3' HYX
        have hC := hY3.b
        obtain ⟨y0, y1, y2, y3, k0', k1', k2', k3'⟩ := hC.four
        clear hC
        try unfold RVal.val
        go_upto_region 5 with (fail)
        obtain ⟨W3, hW3⟩ : ∃ W3, ((((w3.setCell ⟨g5, 0, none⟩ (.bool (decide (r3.q.num < 0)))).setCell ⟨g5, 1, none⟩ (.slice r3.N (dg r3.q.num.natAbs).length r3.cn)).setCell ⟨g5, 2, none⟩ (.bool false)).setCell ⟨g5, 3, none⟩ (.slice r3.D (dg (dnz r3.q.den)).length r3.cd)) = W3 := ⟨_, rfl⟩
        have hA2 := hA.out W3 hW3.symm
        rw [hW3]
        obtain ⟨a1, a2, a3, a4, a5⟩ := hA2
        have HPX := Lib.hid (HXX.out W3 a1.ok)
        have HBB := Lib.hid (fun w5 r5 e6 e7 e8 => HB.out W3 w5 r3 r5 a1 a2 a3 a4 a5 e6 e7 e8)
        obtain ⟨x0, x1, x2, x3, h0', h1', h2', h3'⟩ := a1.b.four
        rw [HSX.out.1] at x0
        rw [HSX.out.2.1, HSX.out.2.2.2.1, HSX.out.2.2.2.2.2.1] at x1
        rw [HSX.out.2.2.1, HSX.out.2.2.2.2.1, HSX.out.2.2.2.2.2.2] at x3
        have HA1 := Lib.hid a1
        clear hW3 hA HA a2 a3 a4 a5 hY3 y0 y1 y2 y3 k0' k1' k2' k3' a1 HXX HB hok3 hb3
        go_wp2_with (fail)
        refine HPX.out.mono ?_
        rintro e w5 ⟨r5, hq5, rfl, hok5, hb5⟩
        have hD := HA1.out.b.keep hb5 HA1.out.b.lt
        obtain ⟨x0, x1, x2, x3, h0', h1', h2', h3'⟩ := hD.four
        have HFIN := Lib.hid (HBB.out w5 r5 hq5 hok5 hb5)
        try unfold RVal.val
        clear hD HBB HPX hq5
        go_wp2
        go_roundw
        case rel => exact ⟨eh, s0 + s0, k0 + s0, r5, r3, rfl, by omega, HFIN⟩
        case measure => simp [intOf]; omega
      · have hm1 : e0 % 2 = 0 := by omega
        rw [hm1] at hmod hw2
        have h1b : ((0 : Int) == 1) = false := rfl
        have HXX := Lib.hid (fun V (h : rx.Ok V) => HMU.out rx rx V h h hqx hqx)
        have HB : Hid (∀ (W3 w5 : World) (r3 r5 : RVal), RBlk W3 w.heap.size rx → RBlk W3 g5 r3 → Below w.heap.size w W3 → Blk W3 (w.heap.size + 1) 52 #[.bool false, .slice none 0 0, .bool false, .slice none 0 0] → r3.q = (z : Rat) ^ k0 → r5.q = rx.q * rx.q → r5.Ok w5 → Below W3.heap.size W3 w5 → PwrSt w z n g5 ((((w5.setCell ⟨w.heap.size, 0, none⟩ (.bool (decide (r5.q.num < 0)))).setCell ⟨w.heap.size, 1, none⟩ (.slice r5.N (dg r5.q.num.natAbs).length r5.cn)).setCell ⟨w.heap.size, 2, none⟩ (.bool false)).setCell ⟨w.heap.size, 3, none⟩ (.slice r5.D (dg (dnz r5.q.den)).length r5.cd)) eh (s0 + s0) k0 r5 r3) := Lib.hid (fun W3 w5 r3 r5 a1 a2 a3 a4 a5 a6 a7 hb5 => by
          have hX5 := a1.keep hb5
          have hY5 := a2.keep hb5
          refine ⟨Below.four (below_all a3 hb5) (Nat.le_refl _), RBlk.put hX5.b a7, hY5.oth hX5.b (by omega), ?_, ?_, a5, ?_, by omega, ?_⟩
          · have hz := a4.keep hb5 a4.lt
            exact (((hz.far (by simp) _).far (by simp) _).far (by simp) _).far (by simp) _
          · rw [a6, HST.out.qx, ← rat_pow_add]
          · have h1 := HST.out.sum
            have h2 : e0 = 2 * eh := by omega
            rw [h2] at h1
            rw [← h1, ← Nat.two_mul, Nat.mul_comm 2 s0, Nat.mul_assoc]
          · intro h
            have h1 := HST.out.sum
            have h2 : s0 * 2 ≤ s0 * e0 := Nat.mul_le_mul_left _ (by omega)
            omega)
        have HXO := Lib.hid HST.out.bx.ok
        clear hqx hqy h0
        have HPX := Lib.hid (HXX.out wo HST.out.bx.ok)
        have HBB := Lib.hid (fun w5 r5 e6 e7 e8 => HB.out wo w5 ry r5 HST.out.bx HST.out.by_ HST.out.below HST.out.bz HST.out.qy e6 e7 e8)
        have HA1 := Lib.hid HST.out.bx
        clear HXX HB
        unfold RVal.val at HPX
        generalize decide (rx.q.num < 0) = sx at *
        generalize (dg rx.q.num.natAbs).length = nx at *
        generalize (dg (dnz rx.q.den)).length = mx at *
        generalize rx.N = Nx at *
        generalize rx.D = Dx at *
        generalize rx.cn = cnx at *
        generalize rx.cd = cdx at *
        go_wp2_with (fail)
        refine HPX.out.mono ?_
        rintro e w5 ⟨r5, hq5, rfl, hok5, hb5⟩
        have hD := HA1.out.b.keep hb5 HA1.out.b.lt
        obtain ⟨x0, x1, x2, x3, h0', h1', h2', h3'⟩ := hD.four
        have HFIN := Lib.hid (HBB.out w5 r5 hq5 hok5 hb5)
        try unfold RVal.val
        clear hD HBB HPX hq5
        go_wp2
        go_roundw
        case rel => exact ⟨eh, s0 + s0, k0, r5, ry, rfl, by omega, HFIN⟩
        case measure => simp [intOf]; omega
end Go.Proofs.Tg
end
