/- Parts of the proof: BN28, BN29, SC3, MQ0. -/
import Derived.Test.YtodjofbneeejpaaGreatDoorMBD2
import Derived.Test.YtodjofbneeejpaaGreatDoorMBD30
section
/- The harness's numbers: the sum of rational numbers. -/
namespace Go.Proofs.Tg
open Go.RowKit Go.Gr Go.Bn Go.Rq
set_option maxHeartbeats 16000000
set_option maxRecDepth 100000
theorem radd_q (p q : Rat) (va vb : Value) (w : World) (ha : QAt w va p) (hb : QAt w vb q) (hp : QS p) (hq : QS q) :
    Calls Tryz.prog 68 #[va, vb] w (RetQ (p + q) w) := by
  obtain ⟨NA, ca, DA, cda, rfl, hNA, hDA⟩ := ha
  obtain ⟨NB, cb, DB, cdb, rfl, hNB, hDB⟩ := hb
  obtain ⟨na, hna⟩ : ∃ na, (dg p.num.natAbs).length = na := ⟨_, rfl⟩
  obtain ⟨nb, hnb⟩ : ∃ nb, (dg q.num.natAbs).length = nb := ⟨_, rfl⟩
  obtain ⟨ea, hea⟩ : ∃ ea, (dg (dnz p.den)).length = ea := ⟨_, rfl⟩
  obtain ⟨eb, heb⟩ : ∃ eb, (dg (dnz q.den)).length = eb := ⟨_, rfl⟩
  obtain ⟨sa, hsa⟩ : ∃ sa, decide (p.num < 0) = sa := ⟨_, rfl⟩
  obtain ⟨sb, hsb⟩ : ∃ sb, decide (q.num < 0) = sb := ⟨_, rfl⟩
  rw [hna, hnb, hea, heb, hsa, hsb]
  obtain ⟨W, hW⟩ : ∃ W, ((w.alloc (.cells #[.bool sa, .slice NA na ca, .bool false, .slice DA ea cda] 109)).alloc (.cells #[.bool sb, .slice NB nb cb, .bool false, .slice DB eb cdb] 109)).alloc (.cells #[.bool false, .slice none 0 0, .bool false, .slice none 0 0] 109) = W := ⟨_, rfl⟩
  have B0 : Blk W w.heap.size 109 #[.bool sa, .slice NA na ca, .bool false, .slice DA ea cda] := by rw [← hW]; exact ((Blk.new _ _ _).alloc _).alloc _
  have B1 : Blk W (w.heap.size + 1) 109 #[.bool sb, .slice NB nb cb, .bool false, .slice DB eb cdb] := by
   rw [← hW]; have := (Blk.new (w.alloc (.cells #[.bool sa, .slice NA na ca, .bool false, .slice DA ea cda] 109)) 109 #[.bool sb, .slice NB nb cb, .bool false, .slice DB eb cdb]).alloc (.cells #[.bool false, .slice none 0 0, .bool false, .slice none 0 0] 109)
   simpa using this
  have B2 : Blk W (w.heap.size + 1 + 1) 109 #[.bool false, .slice none 0 0, .bool false, .slice none 0 0] := by
   rw [← hW]; have := Blk.new ((w.alloc (.cells #[.bool sa, .slice NA na ca, .bool false, .slice DA ea cda] 109)).alloc (.cells #[.bool sb, .slice NB nb cb, .bool false, .slice DB eb cdb] 109)) 109 #[.bool false, .slice none 0 0, .bool false, .slice none 0 0]
   simpa using this
  have hbW : Below w.heap.size w W := by rw [← hW]; exact (((Below.refl _ _).alloc (Nat.le_refl _) _).alloc (by simp) _).alloc (by simp; omega) _
  have hX := hNA.keep hbW
  have hY := hNB.keep hbW
  have hDX := hDA.keep hbW
  have hDY := hDB.keep hbW
  obtain ⟨x0, hx0⟩ : ∃ x0, p.num + q.num = x0 := ⟨_, rfl⟩
  obtain ⟨m0, hm0⟩ : ∃ m0, (dg x0.natAbs).length = m0 := ⟨_, rfl⟩
  obtain ⟨s0, hs0⟩ : ∃ s0, decide (x0 < 0) = s0 := ⟨_, rfl⟩
  have hpl := hp.num
  have hql := hq.num
  have hsl : p.num.natAbs + q.num.natAbs < B ^ 41 := by
   have h1 := hp.1
   have h2 := hq.1
   have h3 : B ^ 40 + B ^ 40 ≤ B ^ 41 := by decide
   omega
  have HM0 : Hid (∀ V, Below W.heap.size W V → Calls Tryz.prog 90 #[.agg #[.bool sa, .slice NA na ca], .agg #[.bool sb, .slice NB nb cb]] V fun e w' => ∃ M c, e = .returned (.agg #[.bool s0, .slice M m0 c]) ∧ ND w' M c x0.natAbs ∧ Below V.heap.size V w') := Lib.hid (fun V h => by
   have := iadd_any p.num q.num NA NB ca cb V (hX.keep h) (hY.keep h) (by omega) (by omega) (by have := dg_lo hsl; omega)
   rw [hx0, hsa, hsb, hna, hnb] at this
   unfold RetZ at this
   rw [hs0, hm0] at this
   exact this)
  have HW := Lib.hid hW
  have HB2 := Lib.hid B2
  have hl2 := B2.lt
  have n1 : (w.heap.size = w.heap.size + 1 + 1) = False := eq_false (by omega)
  have n2 : (w.heap.size + 1 + 1 = w.heap.size) = False := eq_false (by omega)
  obtain ⟨a0, a1, a2, a3, _, _, _, _⟩ := B0.four
  obtain ⟨b0, b1, b2, b3, _, _, _, _⟩ := B1.four
  obtain ⟨d0, d1, d2, d3, f0, f1, f2, f3⟩ := B2.four
  have hbe : Below W.heap.size W W.drew := (Below.refl _ _).drew
  have hwz : w.heap.size ≤ w.heap.size + 1 + 1 := by omega
  by_cases hboth : ea = 0 ∧ eb = 0
  ·obtain ⟨h1, h2⟩ := hboth
   obtain ⟨k1, k2⟩ := dnz_mul (a := p.den) (b := q.den) (dg_len0 (hea.trans h1)) (dg_len0 (heb.trans h2)) p.den_nz q.den_nz
   have hPQ : p + q = ((x0 : Int) : Rat) := by
    rw [rat_whole k1, rat_whole k2, ← Rat.intCast_add, ← hx0]
   have HPQ := Lib.hid hPQ
   have HS1 := Lib.hid hs0
   have HMM1 := Lib.hid hm0
   subst h1 h2
   clear hW hea heb hsa hsb hna hnb hs0 hm0 hX hY hDX hDY hNA hNB hDA hDB B0 B1 B2 hp hq hx0 hpl hql hsl k1 k2 hPQ
   go_enter Tryz.func68, Tryz.ntmps68
   go_upto_region 1 with (fail)
   rw [HW.out]
   go_wp2_with (go_at_call 90; refine (HM0.out _ (by first | exact Below.refl _ _ | exact (Below.refl _ _).drew | exact below_drewN (Below.refl _ _) _)).mono ?_; rintro e w2 ⟨M, c, rfl, hM, hb2⟩; have C2 := HB2.out.keep hb2 hl2; obtain ⟨d0, d1, d2, d3, f0, f1, f2, f3⟩ := C2.four)
   obtain ⟨g0, g1, g2, g3, _⟩ := (blk_four (a' := .bool s0) (b' := .slice M m0 c) (c' := .bool false) (d' := .slice none 0 0) C2).four
   refine bodyPost_ret (v := .agg #[.bool s0, .slice M m0 c, .bool false, .slice none 0 0]) (by simp [results, Tryz.results68, go_sem, g0, g1, g2, g3]) rfl ⟨_, rfl, ⟨M, c, none, 0, ?_, ?_, ?_⟩, ?_⟩
   ·rw [HPQ.out]
    change _ = Value.agg #[.bool (decide (x0 < 0)), .slice M (dg x0.natAbs).length c, .bool false, .slice none (dg (dnz 1)).length 0]
    rw [HS1.out, HMM1.out, dnz_one, dg_zero]; try rfl
   ·rw [HPQ.out]; exact hM.four C2 (by decide)
   ·rw [HPQ.out]
    change ND _ none 0 (dnz 1)
    rw [dnz_one]; exact ND.zero _
   ·exact Below.four (below_all hbW hb2) hwz
  ·obtain ⟨x1, hx1⟩ : ∃ x, p.num * (q.den : Int) = x := ⟨_, rfl⟩
   obtain ⟨x2, hx2⟩ : ∃ x, q.num * (p.den : Int) = x := ⟨_, rfl⟩
   obtain ⟨x3, hx3⟩ : ∃ x, x1 + x2 = x := ⟨_, rfl⟩
   obtain ⟨x4, hx4⟩ : ∃ x, p.den * q.den = x := ⟨_, rfl⟩
   obtain ⟨m1, hm1⟩ : ∃ m, (dg x1.natAbs).length = m := ⟨_, rfl⟩
   obtain ⟨m2, hm2⟩ : ∃ m, (dg x2.natAbs).length = m := ⟨_, rfl⟩
   obtain ⟨m3, hm3⟩ : ∃ m, (dg x3.natAbs).length = m := ⟨_, rfl⟩
   obtain ⟨m4, hm4⟩ : ∃ m, (dg x4).length = m := ⟨_, rfl⟩
   obtain ⟨s1, hs1⟩ : ∃ s, decide (x1 < 0) = s := ⟨_, rfl⟩
   obtain ⟨s2, hs2⟩ : ∃ s, decide (x2 < 0) = s := ⟨_, rfl⟩
   obtain ⟨s3, hs3⟩ : ∃ s, decide (x3 < 0) = s := ⟨_, rfl⟩
   obtain ⟨fa, hfa⟩ : ∃ fa, (dg p.den).length = fa := ⟨_, rfl⟩
   obtain ⟨fb, hfb⟩ : ∃ fb, (dg q.den).length = fb := ⟨_, rfl⟩
   have l1 : x1.natAbs < B ^ 41 := by rw [← hx1, Int.natAbs_mul]; exact hp.cross hq
   have l2 : x2.natAbs < B ^ 41 := by rw [← hx2, Int.natAbs_mul]; exact hq.cross hp
   have l3 : x1.natAbs + x2.natAbs < B ^ 42 := by
    have h3 : B ^ 41 + B ^ 41 ≤ B ^ 42 := by decide
    omega
   have l3' : x3.natAbs < B ^ 42 := by omega
   have l1' := dg_lo l1
   have l2' := dg_lo l2
   have l4' := dg_lo l3
   have l5' := dg_lo l3'
   have hx2B : x4 < B := by rw [← hx4]; exact hp.dens hq
   have hx20 : x4 ≠ 0 := by rw [← hx4]; exact Nat.mul_ne_zero p.den_nz q.den_nz
   have HDA : Hid (∀ V, Below W.heap.size W V → Calls Tryz.prog 93 #[.agg #[.bool sa, .slice NA na ca, .bool false, .slice DA ea cda]] V fun e w' => ∃ R c, e = .returned (.agg #[.bool false, .slice R fa c]) ∧ ND w' R c p.den ∧ Below V.heap.size V w') := Lib.hid (fun V h => by
    have := den_any sa NA DA na ca cda p.den V (hDX.keep h) p.den_nz (by have := hp.den; omega)
    rw [hea] at this
    unfold RetN at this
    rw [hfa] at this
    exact this)
   have HDB : Hid (∀ V, Below W.heap.size W V → Calls Tryz.prog 93 #[.agg #[.bool sb, .slice NB nb cb, .bool false, .slice DB eb cdb]] V fun e w' => ∃ R c, e = .returned (.agg #[.bool false, .slice R fb c]) ∧ ND w' R c q.den ∧ Below V.heap.size V w') := Lib.hid (fun V h => by
    have := den_any sb NB DB nb cb cdb q.den V (hDY.keep h) q.den_nz (by have := hq.den; omega)
    rw [heb] at this
    unfold RetN at this
    rw [hfb] at this
    exact this)
   have HM1 : Hid (∀ V R c, Below W.heap.size W V → ND V R c q.den → Calls Tryz.prog 92 #[.agg #[.bool sa, .slice NA na ca], .agg #[.bool false, .slice R fb c]] V fun e w' => ∃ M c, e = .returned (.agg #[.bool s1, .slice M m1 c]) ∧ ND w' M c x1.natAbs ∧ Below V.heap.size V w') := Lib.hid (fun V R c h h' => by
    have := imul_any p.num (q.den : Int) NA R ca c V (hX.keep h) h' (by omega) (by have := hq.den; simp only [Int.natAbs_natCast]; omega) (by rw [← Int.natAbs_mul, hx1]; omega)
    rw [hx1, hsa, hna, Int.natAbs_natCast, hfb, decide_eq_false (show ¬ (q.den : Int) < 0 by omega)] at this
    unfold RetZ at this
    rw [hs1, hm1] at this
    exact this)
   have HM2 : Hid (∀ V R c, Below W.heap.size W V → ND V R c p.den → Calls Tryz.prog 92 #[.agg #[.bool sb, .slice NB nb cb], .agg #[.bool false, .slice R fa c]] V fun e w' => ∃ M c, e = .returned (.agg #[.bool s2, .slice M m2 c]) ∧ ND w' M c x2.natAbs ∧ Below V.heap.size V w') := Lib.hid (fun V R c h h' => by
    have := imul_any q.num (p.den : Int) NB R cb c V (hY.keep h) h' (by omega) (by have := hp.den; simp only [Int.natAbs_natCast]; omega) (by rw [← Int.natAbs_mul, hx2]; omega)
    rw [hx2, hsb, hnb, Int.natAbs_natCast, hfa, decide_eq_false (show ¬ (p.den : Int) < 0 by omega)] at this
    unfold RetZ at this
    rw [hs2, hm2] at this
    exact this)
   have HA3 : Hid (∀ V R c R' c', ND V R c x1.natAbs → ND V R' c' x2.natAbs → Calls Tryz.prog 90 #[.agg #[.bool s1, .slice R m1 c], .agg #[.bool s2, .slice R' m2 c']] V fun e w' => ∃ M c, e = .returned (.agg #[.bool s3, .slice M m3 c]) ∧ ND w' M c x3.natAbs ∧ Below V.heap.size V w') := Lib.hid (fun V R c R' c' h h' => by
    have := iadd_any x1 x2 R R' c c' V h h' (by omega) (by omega) (by omega)
    rw [hx3, hs1, hs2, hm1, hm2] at this
    unfold RetZ at this
    rw [hs3, hm3] at this
    exact this)
   have HM4 : Hid (∀ V R c R' c', ND V R c p.den → ND V R' c' q.den → Calls Tryz.prog 92 #[.agg #[.bool false, .slice R fa c], .agg #[.bool false, .slice R' fb c']] V fun e w' => ∃ M c, e = .returned (.agg #[.bool false, .slice M m4 c]) ∧ ND w' M c x4 ∧ Below V.heap.size V w') := Lib.hid (fun V R c R' c' h h' => by
    have := nMul_any false false R R' c c' p.den q.den V h h' (by have := hp.den; omega) (by have := hq.den; omega) (by rw [hx4]; have := dg_lo (k := 1) (show x4 < B ^ 1 by simpa using hx2B); omega)
    rw [hx4, hfa, hfb] at this
    unfold RetSg at this
    rw [hm4] at this
    exact this)
   obtain ⟨r, hr⟩ : ∃ r, mkRat x3 x4 = r := ⟨_, rfl⟩
   obtain ⟨sr, hsr⟩ : ∃ s, decide (r.num < 0) = s := ⟨_, rfl⟩
   obtain ⟨nr, hnr⟩ : ∃ s, (dg r.num.natAbs).length = s := ⟨_, rfl⟩
   obtain ⟨er, her⟩ : ∃ s, (dg (dnz r.den)).length = s := ⟨_, rfl⟩
   have HF : Hid (∀ V R c R' c', ND V R c x3.natAbs → ND V R' c' x4 → Calls Tryz.prog 91 #[.agg #[.bool s3, .slice R m3 c], .agg #[.bool false, .slice R' m4 c']] V fun e w' => ∃ N cn D cd, e = .returned (.agg #[.bool sr, .slice N nr cn, .bool false, .slice D er cd]) ∧ ND w' N cn r.num.natAbs ∧ ND w' D cd (dnz r.den) ∧ Below V.heap.size V w') := Lib.hid (fun V R c R' c' h h' => by
    have := frac_q x3 x4 R R' c c' V h h' (by omega) hx2B hx20
    rw [hs3, hm3, hm4, hr] at this
    refine this.mono ?_
    rintro e w' ⟨v, rfl, ⟨N, cn, D, cd, rfl, k1, k2⟩, hb⟩
    exact ⟨N, cn, D, cd, by rw [hsr, hnr, her], k1, k2, hb⟩)
   have HR : Hid (p + q = r) := Lib.hid (by rw [Rat.add_def', hx1, hx2, hx3, hx4, ← hr])
   have HSR := Lib.hid hsr
   have HNR := Lib.hid hnr
   have HER := Lib.hid her
   have c1 : ((ea : Int) == 0) = decide (ea = 0) := by by_cases h : ea = 0 <;> simp [h]
   have c2 : ((eb : Int) == 0) = decide (eb = 0) := by by_cases h : eb = 0 <;> simp [h]
   have HRES : Hid (∀ (V : World) N cn D cd, Below W.heap.size W V → ND V N cn r.num.natAbs → ND V D cd (dnz r.den) → Blk V (w.heap.size + 1 + 1) 109 #[.bool false, .slice none 0 0, .bool false, .slice none 0 0] → RetQ (p + q) w (.returned (.agg #[.bool sr, .slice N nr cn, .bool false, .slice D er cd])) ((((V.setCell ⟨w.heap.size + 1 + 1, 0, none⟩ (.bool sr)).setCell ⟨w.heap.size + 1 + 1, 1, none⟩ (.slice N nr cn)).setCell ⟨w.heap.size + 1 + 1, 2, none⟩ (.bool false)).setCell ⟨w.heap.size + 1 + 1, 3, none⟩ (.slice D er cd))) := Lib.hid (fun V N cn D cd hb h1 h2 C => by
    refine ⟨_, rfl, ⟨N, cn, D, cd, ?_, ?_, ?_⟩, Below.four (below_all hbW hb) hwz⟩
    ·rw [HR.out, HSR.out, HNR.out, HER.out]
    ·rw [HR.out]; exact h1.four C (by decide)
    ·rw [HR.out]; exact h2.four C (by decide))
   clear hW hea heb hsa hsb hna hnb hs1 hm1 hs2 hm2 hs3 hm3 hx3 hx4 hm4 hs0 hm0 hx0 l1 l2 l3 l3' l1' l2' l4' l5' hX hY hDX hDY hNA hNB hDA hDB B0 B1 B2 hp hq hx1 hpl hql hsl hx2 hfa hfb hx2B hx20 hr hsr hnr her HR
   by_cases h1 : ea = 0
   ·have h2 : ¬ eb = 0 := fun h => hboth ⟨h1, h⟩
    rw [decide_eq_true h1] at c1
    rw [decide_eq_false h2] at c2
    have c1' : (ea == 0) = true := by simp [h1]
    have c2' : (eb == 0) = false := by simp [h2]
    clear hboth h1 h2
    go_enter Tryz.func68, Tryz.ntmps68
    go_upto_region 1 with (fail)
    rw [HW.out]
    go_upto_region 3 with (fail)
    go_region_held3 (fun w' => w'.cell? ⟨w.heap.size, 0, none⟩ = some (.bool sa) ∧ w'.cell? ⟨w.heap.size, 1, none⟩ = some (.slice NA na ca) ∧ w'.cell? ⟨w.heap.size, 2, none⟩ = some (.bool false) ∧ w'.cell? ⟨w.heap.size, 3, none⟩ = some (.slice DA ea cda) ∧ w'.cell? ⟨w.heap.size + 1, 0, none⟩ = some (.bool sb) ∧ w'.cell? ⟨w.heap.size + 1, 1, none⟩ = some (.slice NB nb cb) ∧ w'.cell? ⟨w.heap.size + 1, 2, none⟩ = some (.bool false) ∧ w'.cell? ⟨w.heap.size + 1, 3, none⟩ = some (.slice DB eb cdb))
      (first | exact ⟨keep_cell hbe a0, keep_cell hbe a1, keep_cell hbe a2, keep_cell hbe a3, keep_cell hbe b0, keep_cell hbe b1, keep_cell hbe b2, keep_cell hbe b3⟩ | exact ⟨cell_four (keep_cell hbe a0) (by simp; omega), cell_four (keep_cell hbe a1) (by simp; omega), cell_four (keep_cell hbe a2) (by simp; omega), cell_four (keep_cell hbe a3) (by simp; omega), cell_four (keep_cell hbe b0) (by simp), cell_four (keep_cell hbe b1) (by simp), cell_four (keep_cell hbe b2) (by simp), cell_four (keep_cell hbe b3) (by simp)⟩ | go_keep)
      (first
        | (go_at_call 93; with_reducible refine Calls.mono (HDA.out _ (by assumption)) ?_; rintro e w2 ⟨R1, k2, rfl, hR1', hb2⟩; (try have hM1 := hM1.keep hb2); (try have hM2 := hM2.keep hb2); (try have hR2 := hR2.keep hb2); (try have hA3 := hA3.keep hb2); have hR1 := hR1'; have hbe := below_all hbe hb2; have Y2 := HB2.out.keep hbe hl2; obtain ⟨d0, d1, d2, d3, f0, f1, f2, f3⟩ := Y2.four)
        | (go_at_call 93; with_reducible refine Calls.mono (HDB.out _ (by assumption)) ?_; rintro e w2 ⟨R2, k3, rfl, hR2', hb2⟩; (try have hM1 := hM1.keep hb2); (try have hM2 := hM2.keep hb2); (try have hR1 := hR1.keep hb2); (try have hA3 := hA3.keep hb2); have hR2 := hR2'; have hbe := below_all hbe hb2; have Y2 := HB2.out.keep hbe hl2; obtain ⟨d0, d1, d2, d3, f0, f1, f2, f3⟩ := Y2.four)
        | (go_at_call 92; with_reducible refine Calls.mono (HM1.out _ _ _ (by assumption) hR2) ?_; rintro e w2 ⟨M1, k1, rfl, hM1', hb2⟩; (try have hM2 := hM2.keep hb2); (try have hR1 := hR1.keep hb2); (try have hR2 := hR2.keep hb2); (try have hA3 := hA3.keep hb2); have hM1 := hM1'; have hbe := below_all hbe hb2; have Y2 := HB2.out.keep hbe hl2; obtain ⟨d0, d1, d2, d3, f0, f1, f2, f3⟩ := Y2.four)
        | (go_at_call 92; with_reducible refine Calls.mono (HM2.out _ _ _ (by assumption) hR1) ?_; rintro e w2 ⟨M2, k4, rfl, hM2', hb2⟩; (try have hM1 := hM1.keep hb2); (try have hR1 := hR1.keep hb2); (try have hR2 := hR2.keep hb2); (try have hA3 := hA3.keep hb2); have hM2 := hM2'; have hbe := below_all hbe hb2; have Y2 := HB2.out.keep hbe hl2; obtain ⟨d0, d1, d2, d3, f0, f1, f2, f3⟩ := Y2.four)
        | (go_at_call 90; with_reducible refine Calls.mono (HA3.out _ _ _ _ _ hM1 hM2) ?_; rintro e w2 ⟨A3, k5, rfl, hA3', hb2⟩; (try have hM1 := hM1.keep hb2); (try have hM2 := hM2.keep hb2); (try have hR1 := hR1.keep hb2); (try have hR2 := hR2.keep hb2); have hA3 := hA3'; have hbe := below_all hbe hb2; have Y2 := HB2.out.keep hbe hl2; obtain ⟨d0, d1, d2, d3, f0, f1, f2, f3⟩ := Y2.four)
        | (go_at_call 92; with_reducible refine Calls.mono (HM4.out _ _ _ _ _ hR1 hR2) ?_; rintro e w2 ⟨M4, k6, rfl, hM4, hb2⟩; (try have hM1 := hM1.keep hb2); (try have hM2 := hM2.keep hb2); (try have hR1 := hR1.keep hb2); (try have hR2 := hR2.keep hb2); (try have hA3 := hA3.keep hb2); have hbe := below_all hbe hb2; have Y2 := HB2.out.keep hbe hl2; obtain ⟨d0, d1, d2, d3, f0, f1, f2, f3⟩ := Y2.four)
        | (go_at_call 91; with_reducible refine Calls.mono (HF.out _ _ _ _ _ hA3 hM4) ?_; rintro e w2 ⟨N, cn, D, cd, rfl, hN, hD, hb2⟩; have hbe := below_all hbe hb2; have Y2 := HB2.out.keep hbe hl2; obtain ⟨d0, d1, d2, d3, f0, f1, f2, f3⟩ := Y2.four))
    all_goals
      go_wp2
      obtain ⟨g0, g1, g2, g3, _⟩ := (blk_four (a' := .bool sr) (b' := .slice N nr cn) (c' := .bool false) (d' := .slice D er cd) Y2).four
      exact bodyPost_ret (v := .agg #[.bool sr, .slice N nr cn, .bool false, .slice D er cd]) (by simp [results, Tryz.results68, go_sem, g0, g1, g2, g3]) rfl (HRES.out _ N cn D cd hbe hN hD Y2)
   ·rw [decide_eq_false h1] at c1
    have c1' : (ea == 0) = false := by simp [h1]
    clear hboth h1 c2
    go_enter Tryz.func68, Tryz.ntmps68
    go_upto_region 1 with (fail)
    rw [HW.out]
    go_upto_region 3 with (fail)
    go_region_held3 (fun w' => w'.cell? ⟨w.heap.size, 0, none⟩ = some (.bool sa) ∧ w'.cell? ⟨w.heap.size, 1, none⟩ = some (.slice NA na ca) ∧ w'.cell? ⟨w.heap.size, 2, none⟩ = some (.bool false) ∧ w'.cell? ⟨w.heap.size, 3, none⟩ = some (.slice DA ea cda) ∧ w'.cell? ⟨w.heap.size + 1, 0, none⟩ = some (.bool sb) ∧ w'.cell? ⟨w.heap.size + 1, 1, none⟩ = some (.slice NB nb cb) ∧ w'.cell? ⟨w.heap.size + 1, 2, none⟩ = some (.bool false) ∧ w'.cell? ⟨w.heap.size + 1, 3, none⟩ = some (.slice DB eb cdb))
      (first | exact ⟨keep_cell hbe a0, keep_cell hbe a1, keep_cell hbe a2, keep_cell hbe a3, keep_cell hbe b0, keep_cell hbe b1, keep_cell hbe b2, keep_cell hbe b3⟩ | exact ⟨cell_four (keep_cell hbe a0) (by simp; omega), cell_four (keep_cell hbe a1) (by simp; omega), cell_four (keep_cell hbe a2) (by simp; omega), cell_four (keep_cell hbe a3) (by simp; omega), cell_four (keep_cell hbe b0) (by simp), cell_four (keep_cell hbe b1) (by simp), cell_four (keep_cell hbe b2) (by simp), cell_four (keep_cell hbe b3) (by simp)⟩ | go_keep)
      (first
        | (go_at_call 93; with_reducible refine Calls.mono (HDA.out _ (by assumption)) ?_; rintro e w2 ⟨R1, k2, rfl, hR1', hb2⟩; (try have hM1 := hM1.keep hb2); (try have hM2 := hM2.keep hb2); (try have hR2 := hR2.keep hb2); (try have hA3 := hA3.keep hb2); have hR1 := hR1'; have hbe := below_all hbe hb2; have Y2 := HB2.out.keep hbe hl2; obtain ⟨d0, d1, d2, d3, f0, f1, f2, f3⟩ := Y2.four)
        | (go_at_call 93; with_reducible refine Calls.mono (HDB.out _ (by assumption)) ?_; rintro e w2 ⟨R2, k3, rfl, hR2', hb2⟩; (try have hM1 := hM1.keep hb2); (try have hM2 := hM2.keep hb2); (try have hR1 := hR1.keep hb2); (try have hA3 := hA3.keep hb2); have hR2 := hR2'; have hbe := below_all hbe hb2; have Y2 := HB2.out.keep hbe hl2; obtain ⟨d0, d1, d2, d3, f0, f1, f2, f3⟩ := Y2.four)
        | (go_at_call 92; with_reducible refine Calls.mono (HM1.out _ _ _ (by assumption) hR2) ?_; rintro e w2 ⟨M1, k1, rfl, hM1', hb2⟩; (try have hM2 := hM2.keep hb2); (try have hR1 := hR1.keep hb2); (try have hR2 := hR2.keep hb2); (try have hA3 := hA3.keep hb2); have hM1 := hM1'; have hbe := below_all hbe hb2; have Y2 := HB2.out.keep hbe hl2; obtain ⟨d0, d1, d2, d3, f0, f1, f2, f3⟩ := Y2.four)
        | (go_at_call 92; with_reducible refine Calls.mono (HM2.out _ _ _ (by assumption) hR1) ?_; rintro e w2 ⟨M2, k4, rfl, hM2', hb2⟩; (try have hM1 := hM1.keep hb2); (try have hR1 := hR1.keep hb2); (try have hR2 := hR2.keep hb2); (try have hA3 := hA3.keep hb2); have hM2 := hM2'; have hbe := below_all hbe hb2; have Y2 := HB2.out.keep hbe hl2; obtain ⟨d0, d1, d2, d3, f0, f1, f2, f3⟩ := Y2.four)
        | (go_at_call 90; with_reducible refine Calls.mono (HA3.out _ _ _ _ _ hM1 hM2) ?_; rintro e w2 ⟨A3, k5, rfl, hA3', hb2⟩; (try have hM1 := hM1.keep hb2); (try have hM2 := hM2.keep hb2); (try have hR1 := hR1.keep hb2); (try have hR2 := hR2.keep hb2); have hA3 := hA3'; have hbe := below_all hbe hb2; have Y2 := HB2.out.keep hbe hl2; obtain ⟨d0, d1, d2, d3, f0, f1, f2, f3⟩ := Y2.four)
        | (go_at_call 92; with_reducible refine Calls.mono (HM4.out _ _ _ _ _ hR1 hR2) ?_; rintro e w2 ⟨M4, k6, rfl, hM4, hb2⟩; (try have hM1 := hM1.keep hb2); (try have hM2 := hM2.keep hb2); (try have hR1 := hR1.keep hb2); (try have hR2 := hR2.keep hb2); (try have hA3 := hA3.keep hb2); have hbe := below_all hbe hb2; have Y2 := HB2.out.keep hbe hl2; obtain ⟨d0, d1, d2, d3, f0, f1, f2, f3⟩ := Y2.four)
        | (go_at_call 91; with_reducible refine Calls.mono (HF.out _ _ _ _ _ hA3 hM4) ?_; rintro e w2 ⟨N, cn, D, cd, rfl, hN, hD, hb2⟩; have hbe := below_all hbe hb2; have Y2 := HB2.out.keep hbe hl2; obtain ⟨d0, d1, d2, d3, f0, f1, f2, f3⟩ := Y2.four))
    all_goals
      go_wp2
      obtain ⟨g0, g1, g2, g3, _⟩ := (blk_four (a' := .bool sr) (b' := .slice N nr cn) (c' := .bool false) (d' := .slice D er cd) Y2).four
      exact bodyPost_ret (v := .agg #[.bool sr, .slice N nr cn, .bool false, .slice D er cd]) (by simp [results, Tryz.results68, go_sem, g0, g1, g2, g3]) rfl (HRES.out _ N cn D cd hbe hN hD Y2)
end Go.Proofs.Tg
end
section
/- The harness's numbers: integers as rational numbers, texts, signs. -/
namespace Go.Proofs.Tg
open Go.RowKit Go.Gr Go.Bn Go.Rq Go.Qn
set_option maxHeartbeats 8000000
set_option maxRecDepth 100000
theorem r_q (z : Int) (h1 : -9223372036854775808 ≤ z) (h2 : z < 9223372036854775808) (w : World) :
    Calls Tryz.prog 69 #[.int .i64 z] w (RetQ (z : Rat) w) := by
  obtain ⟨W, hW⟩ : ∃ W, w.alloc (.cells #[.bool false, .slice none 0 0, .bool false, .slice none 0 0] 109) = W := ⟨_, rfl⟩
  have hbA : Below w.heap.size w W := by rw [← hW]; exact (Below.refl _ _).alloc (Nat.le_refl _) _
  have B0 : Blk W w.heap.size 109 #[.bool false, .slice none 0 0, .bool false, .slice none 0 0] := by rw [← hW]; exact Blk.new _ _ _
  have HWW := Lib.hid hW
  obtain ⟨s, hs⟩ : ∃ s, decide (z < 0) = s := ⟨_, rfl⟩
  obtain ⟨n, hn⟩ : ∃ n, (dg z.natAbs).length = n := ⟨_, rfl⟩
  have HFI : Hid (∀ V, Calls Tryz.prog 94 #[.int .i64 z] V fun e w' => ∃ R c, e = .returned (.agg #[.bool s, .slice R n c]) ∧ ND w' R c z.natAbs ∧ Below V.heap.size V w') := Lib.hid (fun V => by
   have := fromint_num z h1 h2 V
   unfold RetZ at this
   rw [hs, hn] at this
   exact this)
  have HS := Lib.hid hs
  have HN := Lib.hid hn
  clear hW hs hn
  obtain ⟨a0, a1, a2, a3, f0, f1, f2, f3⟩ := B0.four
  go_enter Tryz.func69, Tryz.ntmps69
  go_upto_region 1 with (fail)
  rw [HWW.out]
  go_wp2_with (go_at_call 94; refine (HFI.out _).mono ?_; rintro e w3 ⟨A, c, rfl, hD, hb3⟩; have B3 := B0.keep hb3 B0.lt; obtain ⟨a0, a1, a2, a3, f0, f1, f2, f3⟩ := B3.four)
  obtain ⟨g0, g1, g2, g3, _⟩ := (blk_four (a' := .bool s) (b' := .slice A n c) (c' := .bool false) (d' := .slice none 0 0) B3).four
  refine bodyPost_ret (v := .agg #[.bool s, .slice A n c, .bool false, .slice none 0 0]) (by simp [results, Tryz.results69, go_sem, g0, g1, g2, g3]) rfl ⟨_, rfl, ⟨A, c, none, 0, ?_, ?_, ?_⟩, Below.four (below_all hbA hb3) (Nat.le_refl _)⟩
  ·change _ = Value.agg #[.bool (decide (z < 0)), .slice A (dg z.natAbs).length c, .bool false, .slice none (dg (dnz 1)).length 0]
   rw [HS.out, HN.out, dnz_one, dg_zero]; rfl
  ·exact hD.four B3 (by decide)
  ·change ND _ none 0 (dnz 1)
   rw [dnz_one]; exact ND.zero _
theorem dg_mg {n : Nat} (h : n < B) : dg n = mg n := by
 by_cases h0 : n = 0
 ·subst h0; rw [dg_zero, mg_zero]
 ·rw [dg_small h0 h, mg_pos h0]
theorem dg_dl {m : Nat} (h : m < B) : dg (dnz m) = dl m := by
 by_cases h0 : m = 1
 ·subst h0; rw [dnz_one, dg_zero]; rfl
 ·rw [dnz_pos h0, dl_pos h0, dg_mg h]
theorem text_q (q : Rat) (v : Value) (w : World) (h : QAt w v q) (hs : Sh q) :
    Calls Tryz.prog 96 #[v] w fun e w' => e = .returned (.string (qtx q)) ∧ Below w.heap.size w w' := by
  obtain ⟨N, cn, D, cd, rfl, h1, h2⟩ := h
  have b1 : q.num.natAbs < B := Nat.lt_of_lt_of_le hs.1 (by decide)
  have b2 : q.den < B := Nat.lt_of_lt_of_le hs.2 (by decide)
  have d1 := h1.digs
  have d2 := h2.digs
  rw [dg_mg b1] at d1 ⊢
  rw [dg_dl b2] at d2 ⊢
  exact text_any (decide (q.num < 0)) false N D cn cd q.num.natAbs q.den w d1 d2 hs.1 hs.2 q.den_nz
theorem rsign_q (q : Rat) (v : Value) (w : World) (h : QAt w v q) (hl : (dg q.num.natAbs).length ≤ 1000000) :
    Calls Tryz.prog 71 #[v] w fun e w' => e = .returned (.int .i64 q.num.sign) ∧ Below w.heap.size w w' := by
  obtain ⟨N, cn, D, cd, rfl, h1, h2⟩ := h
  refine rsign_any _ _ _ _ _ _ _ _ w hl _ ?_
  by_cases h0 : q.num < 0
  ·rw [decide_eq_true h0, if_pos rfl, Int.sign_eq_neg_one_of_neg h0]
  ·rw [decide_eq_false h0, if_neg (by decide)]
   by_cases h3 : q.num = 0
   ·rw [h3]; simp [dg_zero]
   ·rw [if_neg (by have := dg_len_pos.2 (show q.num.natAbs ≠ 0 by omega); omega), Int.sign_eq_one_of_pos (by omega)]
end Go.Proofs.Tg
end
section
/- Rows of rational numbers of the harness. -/
namespace Go.Proofs.Tg
open Go.RowKit Go.Gr Go.Bn Go.Rq
set_option maxHeartbeats 4000000
set_option maxRecDepth 100000
/-- A rational number and where its digits lie. -/
structure RVal where
  q : Rat
  N : Option Addr
  cn : Nat
  D : Option Addr
  cd : Nat
def RVal.cells (r : RVal) : List Value := [.bool (decide (r.q.num < 0)), .slice r.N (dg r.q.num.natAbs).length r.cn, .bool false, .slice r.D (dg (dnz r.q.den)).length r.cd]
def RVal.val (r : RVal) : Value := .agg #[.bool (decide (r.q.num < 0)), .slice r.N (dg r.q.num.natAbs).length r.cn, .bool false, .slice r.D (dg (dnz r.q.den)).length r.cd]
structure RVal.Ok (w : World) (r : RVal) : Prop where
  num : ND w r.N r.cn r.q.num.natAbs
  den : ND w r.D r.cd (dnz r.q.den)
theorem RVal.cells_len (r : RVal) : r.cells.length = 4 := rfl
theorem QAt.rval {w : World} {v : Value} {q : Rat} (h : QAt w v q) : ∃ r : RVal, r.q = q ∧ v = r.val ∧ r.Ok w := by
 obtain ⟨N, cn, D, cd, e, h1, h2⟩ := h
 exact ⟨⟨q, N, cn, D, cd⟩, rfl, e, h1, h2⟩
theorem RVal.Ok.at {w : World} {r : RVal} (h : r.Ok w) : QAt w r.val r.q := ⟨r.N, r.cn, r.D, r.cd, rfl, h.num, h.den⟩
theorem RVal.Ok.keep {w w' : World} {r : RVal} (h : r.Ok w) (hb : Below w.heap.size w w') : r.Ok w' := ⟨h.num.keep hb, h.den.keep hb⟩
theorem ND.grown {w w' : World} {A : Option Addr} {c k b sz n : Nat} {ys : List Value} {t : TypeId} {v : Value} (h : ND w A c k) (ho : w.ownsRow b t sz v n ys) (hg : w.grownBy w' v.ownBlock) (hne : t ≠ 123) : ND w' A c k := ⟨h.digs.grown ho hg hne, h.cap, h.nilc⟩
theorem RVal.Ok.grown {w w' : World} {r : RVal} {b sz n : Nat} {ys : List Value} {t : TypeId} {v : Value} (h : r.Ok w) (ho : w.ownsRow b t sz v n ys) (hg : w.grownBy w' v.ownBlock) (hne : t ≠ 123) : r.Ok w' := ⟨h.num.grown ho hg hne, h.den.grown ho hg hne⟩
/-- A row of rational numbers of the call's own. -/
structure OwnQ (base : Nat) (w : World) (A : Option Addr) (c : Nat) (rs : List RVal) : Prop where
  own : w.ownsRow base 109 4 (.slice A rs.length c) rs.length (rs.flatMap RVal.cells)
  ok : ∀ r ∈ rs, r.Ok w
theorem OwnQ.keep {base : Nat} {w w' : World} {A : Option Addr} {c : Nat} {rs : List RVal} (h : OwnQ base w A c rs) (hb : Below w.heap.size w w') : OwnQ base w' A c rs :=
  ⟨own_below h.own hb (Nat.le_refl _), fun r hr => (h.ok r hr).keep hb⟩
theorem OwnQ.mono {base base' : Nat} {w : World} {A : Option Addr} {c : Nat} {rs : List RVal} (h : OwnQ base w A c rs) (hb : base' ≤ base) : OwnQ base' w A c rs := ⟨own_base h.own hb, h.ok⟩
/-- Another row grows. -/
theorem OwnQ.other {base b sz n : Nat} {w w' : World} {A : Option Addr} {c : Nat} {rs : List RVal} {ys : List Value} {t : TypeId} {v : Value} (h : OwnQ base w A c rs) (ho : w.ownsRow b t sz v n ys) (hg : w.grownBy w' v.ownBlock) (hne : t ≠ 123) (hne2 : 109 ≠ t) : OwnQ base w' A c rs :=
  ⟨h.own.kept hg (own_ne h.own ho hne2), fun r hr => (h.ok r hr).grown ho hg hne⟩
theorem rat_info : (Tryz.prog.info? 109).map (fun i => (i.zero, i.size, i.bytes)) = some (some (.agg #[.bool false, .slice none 0 0, .bool false, .slice none 0 0]), 4, 64) := by kernel_rfl
theorem qrow_info : (Tryz.prog.info? 104).map (fun i => (i.zero, i.size, i.bytes)) = some (some (.slice none 0 0), 1, 24) := by kernel_rfl
end Go.Proofs.Tg
end
section
/- Slices of rational numbers that are made and stored into. -/
namespace Go.Proofs.Tg
open Go.RowKit Go.Gr Go.Bn Go.Rq
set_option maxHeartbeats 4000000
set_option maxRecDepth 100000
theorem flat_set4 (r : RVal) : ∀ (rs : List RVal) (k : Nat), k < rs.length → ((((rs.flatMap RVal.cells).set (k * 4) (.bool (decide (r.q.num < 0)))).set (k * 4 + 1) (.slice r.N (dg r.q.num.natAbs).length r.cn)).set (k * 4 + 2) (.bool false)).set (k * 4 + 3) (.slice r.D (dg (dnz r.q.den)).length r.cd) = (rs.set k r).flatMap RVal.cells
  | [], k, h => absurd h (by simp)
  | x :: rs, 0, _ => by simp [RVal.cells]
  | x :: rs, k + 1, h => by
    have ih := flat_set4 r rs k (by simpa using h)
    rw [List.set_cons_succ, List.flatMap_cons, List.flatMap_cons, ← ih]
    unfold RVal.cells
    rw [show (k + 1) * 4 = k * 4 + 1 + 1 + 1 + 1 by omega]
    simp [show k * 4 + 1 + 1 + 1 + 1 + 1 = (k * 4 + 1) + 1 + 1 + 1 + 1 by omega, show k * 4 + 1 + 1 + 1 + 1 + 2 = (k * 4 + 2) + 1 + 1 + 1 + 1 by omega, show k * 4 + 1 + 1 + 1 + 1 + 3 = (k * 4 + 3) + 1 + 1 + 1 + 1 by omega]
theorem OwnQ.set4 {base gA c k : Nat} {w : World} {rs : List RVal} {r : RVal} (h : OwnQ base w (some ⟨gA, 0, none⟩) c rs) (hk : k < rs.length) (hr : r.Ok w) :
    OwnQ base ((((w.setCell ⟨gA, k * 4, none⟩ (.bool (decide (r.q.num < 0)))).setCell ⟨gA, k * 4 + 1, none⟩ (.slice r.N (dg r.q.num.natAbs).length r.cn)).setCell ⟨gA, k * 4 + 2, none⟩ (.bool false)).setCell ⟨gA, k * 4 + 3, none⟩ (.slice r.D (dg (dnz r.q.den)).length r.cd)) (some ⟨gA, 0, none⟩) c (rs.set k r) ∧ w.grownBy ((((w.setCell ⟨gA, k * 4, none⟩ (.bool (decide (r.q.num < 0)))).setCell ⟨gA, k * 4 + 1, none⟩ (.slice r.N (dg r.q.num.natAbs).length r.cn)).setCell ⟨gA, k * 4 + 2, none⟩ (.bool false)).setCell ⟨gA, k * 4 + 3, none⟩ (.slice r.D (dg (dnz r.q.den)).length r.cd)) (some gA) := by
  obtain ⟨o1, g1⟩ := h.own.stored (k * 4) (.bool (decide (r.q.num < 0)))
  obtain ⟨o2, g2⟩ := o1.stored (k * 4 + 1) (.slice r.N (dg r.q.num.natAbs).length r.cn)
  obtain ⟨o3, g3⟩ := o2.stored (k * 4 + 2) (.bool false)
  obtain ⟨o4, g4⟩ := o3.stored (k * 4 + 3) (.slice r.D (dg (dnz r.q.den)).length r.cd)
  have hg := ((g1.trans g2).trans g3).trans g4
  rw [flat_set4 r rs k hk] at o4
  refine ⟨⟨by rw [List.length_set]; exact o4, fun x hx => ?_⟩, hg⟩
  rcases List.mem_or_eq_of_mem_set hx with hx | rfl
  ·exact (h.ok x hx).grown h.own hg (by decide)
  ·exact hr.grown h.own hg (by decide)
/-- The number that a made cell holds. -/
def zq : RVal := ⟨0, none, 0, none, 0⟩
theorem zq_cells : zq.cells = [.bool false, .slice none 0 0, .bool false, .slice none 0 0] := by
 have h1 : (dg (0 : Rat).num.natAbs).length = 0 := by
  rw [show (0 : Rat).num.natAbs = 0 from rfl, dg_zero]; rfl
 have h2 : (dg (dnz (0 : Rat).den)).length = 0 := by
  rw [show (0 : Rat).den = 1 from rfl, dnz_one, dg_zero]; rfl
 unfold RVal.cells zq
 rw [h1, h2]
 rfl
theorem zq_ok (w : World) : zq.Ok w := by
 refine ⟨?_, ?_⟩
 ·exact ND.zero _
 ·show ND w none 0 (dnz 1)
  rw [dnz_one]; exact ND.zero _
theorem made_rats (n : Nat) : madeCells #[.bool false, .slice none 0 0, .bool false, .slice none 0 0] (n * 4) = ((List.replicate n zq).flatMap RVal.cells).toArray := by
 have h : ∀ n : Nat, (List.range (n * 4)).map (fun i => (#[.bool false, .slice none 0 0, .bool false, .slice none 0 0] : Array Value)[i % 4]!) = (List.replicate n zq).flatMap RVal.cells := by
  intro n
  induction n with
  | zero => rfl
  | succ n ih =>
    rw [List.replicate_succ', List.flatMap_append, ← ih, show (n + 1) * 4 = n * 4 + 1 + 1 + 1 + 1 by omega]
    simp only [List.range_succ, List.map_append, List.append_assoc, List.map_cons, List.map_nil, List.flatMap_cons, List.flatMap_nil, List.append_nil]
    rw [zq_cells, show n * 4 % 4 = 0 by omega, show (n * 4 + 1) % 4 = 1 by omega, show (n * 4 + 1 + 1) % 4 = 2 by omega, show (n * 4 + 1 + 1 + 1) % 4 = 3 by omega]
    rfl
 apply Array.toList_inj.1
 rw [← h]
 simp [madeCells]
theorem make_rats (n : Nat) (hn : n ≤ 1000000) (w : World) : (Instr.makeSlice 104 (.int .i64 (n : Int)) (.int .i64 (n : Int))).run Tryz.prog w = .ok (.slice (some ⟨w.heap.size, 0, none⟩) n n) (w.alloc (.cells (madeCells #[.bool false, .slice none 0 0, .bool false, .slice none 0 0] (n * 4)) 109)) := by
 obtain ⟨i0, hi, hz0, hz1, hz2⟩ := info_parts rat_info
 have hr := run_make (P := Tryz.prog) w 104 109 i0 (.agg #[.bool false, .slice none 0 0, .bool false, .slice none 0 0]) Tryz.underlying104 hi hz0 .i64 .i64 n n (by omega) (by omega) (by rw [hz2]; omega) (by omega)
 rw [hz1, Int.toNat_natCast] at hr
 exact hr
theorem own_rats (n : Nat) (hn : n ≤ 1000000) (w : World) : OwnQ w.heap.size (w.alloc (.cells (madeCells #[.bool false, .slice none 0 0, .bool false, .slice none 0 0] (n * 4)) 109)) (some ⟨w.heap.size, 0, none⟩) n (List.replicate n zq) := by
 refine ⟨?_, fun r hr => ?_⟩
 ·rw [List.length_replicate]
  refine ⟨?_, .inr ⟨w.heap.size, n, _, rfl, Nat.le_refl _, heap_alloc_new w _, Nat.le_refl _, by simp only [maxLen]; omega, by simp [size_madeCells], ?_⟩⟩
  ·have := congrArg List.length (congrArg Array.toList (made_rats n))
   simp [size_madeCells] at this
   simpa using this.symm
  ·rw [made_rats]
   have h := congrArg List.length (congrArg Array.toList (made_rats n))
   simp only [Array.length_toList, size_madeCells, List.toList_toArray] at h
   simp only [List.toList_toArray]
   rw [h, List.take_length]
 ·rw [List.eq_of_mem_replicate hr]; exact zq_ok _
end Go.Proofs.Tg
end
