/- Parts of the proof: BN28, BN29, SC1. -/
import Derived.Test.YtpkompfkhoceoaaGreatDoorMMV1
import Derived.Test.YtpkompfkhoceoaaGreatDoorMMV13
section
/- The harness's numbers: the sum of rational numbers. -/
namespace Go.Proofs.Tg
open Go.RowKit Go.Gr Go.Bn Go.Rq
set_option maxHeartbeats 16000000
set_option maxRecDepth 100000
theorem radd_q (p q : Rat) (va vb : Value) (w : World) (ha : QAt w va p) (hb : QAt w vb q) (hp : QS p) (hq : QS q) :
    Calls Tryz.prog 25 #[va, vb] w (RetQ (p + q) w) := by
  obtain ⟨NA, ca, DA, cda, rfl, hNA, hDA⟩ := ha
  obtain ⟨NB, cb, DB, cdb, rfl, hNB, hDB⟩ := hb
  obtain ⟨na, hna⟩ : ∃ na, (dg p.num.natAbs).length = na := ⟨_, rfl⟩
  obtain ⟨nb, hnb⟩ : ∃ nb, (dg q.num.natAbs).length = nb := ⟨_, rfl⟩
  obtain ⟨ea, hea⟩ : ∃ ea, (dg (dnz p.den)).length = ea := ⟨_, rfl⟩
  obtain ⟨eb, heb⟩ : ∃ eb, (dg (dnz q.den)).length = eb := ⟨_, rfl⟩
  obtain ⟨sa, hsa⟩ : ∃ sa, decide (p.num < 0) = sa := ⟨_, rfl⟩
  obtain ⟨sb, hsb⟩ : ∃ sb, decide (q.num < 0) = sb := ⟨_, rfl⟩
  rw [hna, hnb, hea, heb, hsa, hsb]
  obtain ⟨W, hW⟩ : ∃ W, ((w.alloc (.cells #[.bool sa, .slice NA na ca, .bool false, .slice DA ea cda] 52)).alloc (.cells #[.bool sb, .slice NB nb cb, .bool false, .slice DB eb cdb] 52)).alloc (.cells #[.bool false, .slice none 0 0, .bool false, .slice none 0 0] 52) = W := ⟨_, rfl⟩
  have B0 : Blk W w.heap.size 52 #[.bool sa, .slice NA na ca, .bool false, .slice DA ea cda] := by rw [← hW]; exact ((Blk.new _ _ _).alloc _).alloc _
  have B1 : Blk W (w.heap.size + 1) 52 #[.bool sb, .slice NB nb cb, .bool false, .slice DB eb cdb] := by
    rw [← hW]; have := (Blk.new (w.alloc (.cells #[.bool sa, .slice NA na ca, .bool false, .slice DA ea cda] 52)) 52 #[.bool sb, .slice NB nb cb, .bool false, .slice DB eb cdb]).alloc (.cells #[.bool false, .slice none 0 0, .bool false, .slice none 0 0] 52)
    simpa using this
  have B2 : Blk W (w.heap.size + 1 + 1) 52 #[.bool false, .slice none 0 0, .bool false, .slice none 0 0] := by
    rw [← hW]; have := Blk.new ((w.alloc (.cells #[.bool sa, .slice NA na ca, .bool false, .slice DA ea cda] 52)).alloc (.cells #[.bool sb, .slice NB nb cb, .bool false, .slice DB eb cdb] 52)) 52 #[.bool false, .slice none 0 0, .bool false, .slice none 0 0]
    simpa using this
  have hbW : Below w.heap.size w W := by rw [← hW]; exact (((Below.refl _ _).alloc (Nat.le_refl _) _).alloc (by simp) _).alloc (by simp; omega) _
  have hX := hNA.keep hbW
  have hY := hNB.keep hbW
  have hDX := hDA.keep hbW
  have hDY := hDB.keep hbW
  obtain ⟨x0, hx0⟩ : ∃ x0, p.num + q.num = x0 := ⟨_, rfl⟩
  obtain ⟨m0, hm0⟩ : ∃ m0, (dg x0.natAbs).length = m0 := ⟨_, rfl⟩
  obtain ⟨s0, hs0⟩ : ∃ s0, decide (x0 < 0) = s0 := ⟨_, rfl⟩
  have hpl := hp.num
  have hql := hq.num
  have hsl : p.num.natAbs + q.num.natAbs < B ^ 41 := by
    have h1 := hp.1
    have h2 := hq.1
    have h3 : B ^ 40 + B ^ 40 ≤ B ^ 41 := by decide
    omega
  have HM0 : Hid (∀ V, Below W.heap.size W V → Calls Tryz.prog 54 #[.agg #[.bool sa, .slice NA na ca], .agg #[.bool sb, .slice NB nb cb]] V fun e w' => ∃ M c, e = .returned (.agg #[.bool s0, .slice M m0 c]) ∧ ND w' M c x0.natAbs ∧ Below V.heap.size V w') := Lib.hid (fun V h => by
    have := iadd_any p.num q.num NA NB ca cb V (hX.keep h) (hY.keep h) (by omega) (by omega) (by have := dg_lo hsl; omega)
    rw [hx0, hsa, hsb, hna, hnb] at this
    unfold RetZ at this
    rw [hs0, hm0] at this
    exact this)
  have HW := Lib.hid hW
  have HB2 := Lib.hid B2
  have hl2 := B2.lt
  have n1 : (w.heap.size = w.heap.size + 1 + 1) = False := eq_false (by omega)
  have n2 : (w.heap.size + 1 + 1 = w.heap.size) = False := eq_false (by omega)
  obtain ⟨a0, a1, a2, a3, _, _, _, _⟩ := B0.four
  obtain ⟨b0, b1, b2, b3, _, _, _, _⟩ := B1.four
  obtain ⟨d0, d1, d2, d3, f0, f1, f2, f3⟩ := B2.four
  have hbe : Below W.heap.size W W.drew := (Below.refl _ _).drew
  have hwz : w.heap.size ≤ w.heap.size + 1 + 1 := by omega
  by_cases hboth : ea = 0 ∧ eb = 0
  · obtain ⟨h1, h2⟩ := hboth
    obtain ⟨k1, k2⟩ := dnz_mul (a := p.den) (b := q.den) (dg_len0 (hea.trans h1)) (dg_len0 (heb.trans h2)) p.den_nz q.den_nz
    have hPQ : p + q = ((x0 : Int) : Rat) := by
      rw [rat_whole k1, rat_whole k2, ← Rat.intCast_add, ← hx0]
    have HPQ := Lib.hid hPQ
    have HS1 := Lib.hid hs0
    have HMM1 := Lib.hid hm0
    subst h1 h2
    clear hW hea heb hsa hsb hna hnb hs0 hm0 hX hY hDX hDY hNA hNB hDA hDB B0 B1 B2 hp hq hx0 hpl hql hsl k1 k2 hPQ
    go_enter Tryz.func25, Tryz.ntmps25
    go_upto_region 1 with (fail)
    rw [HW.out]
    go_wp2_with (go_at_call 54; refine (HM0.out _ (by first | exact Below.refl _ _ | exact (Below.refl _ _).drew | exact below_drewN (Below.refl _ _) _)).mono ?_; rintro e w2 ⟨M, c, rfl, hM, hb2⟩; have C2 := HB2.out.keep hb2 hl2; obtain ⟨d0, d1, d2, d3, f0, f1, f2, f3⟩ := C2.four)
    obtain ⟨g0, g1, g2, g3, _⟩ := (blk_four (a' := .bool s0) (b' := .slice M m0 c) (c' := .bool false) (d' := .slice none 0 0) C2).four
    refine bodyPost_ret (v := .agg #[.bool s0, .slice M m0 c, .bool false, .slice none 0 0]) (by simp [results, Tryz.results25, go_sem, g0, g1, g2, g3]) rfl ⟨_, rfl, ⟨M, c, none, 0, ?_, ?_, ?_⟩, ?_⟩
    · rw [HPQ.out]
      change _ = Value.agg #[.bool (decide (x0 < 0)), .slice M (dg x0.natAbs).length c, .bool false, .slice none (dg (dnz 1)).length 0]
      rw [HS1.out, HMM1.out, dnz_one, dg_zero]; try rfl
    · rw [HPQ.out]; exact hM.four C2 (by decide)
    · rw [HPQ.out]
      change ND _ none 0 (dnz 1)
      rw [dnz_one]; exact ND.zero _
    · exact Below.four (below_all hbW hb2) hwz
  · obtain ⟨x1, hx1⟩ : ∃ x, p.num * (q.den : Int) = x := ⟨_, rfl⟩
    obtain ⟨x2, hx2⟩ : ∃ x, q.num * (p.den : Int) = x := ⟨_, rfl⟩
    obtain ⟨x3, hx3⟩ : ∃ x, x1 + x2 = x := ⟨_, rfl⟩
    obtain ⟨x4, hx4⟩ : ∃ x, p.den * q.den = x := ⟨_, rfl⟩
    obtain ⟨m1, hm1⟩ : ∃ m, (dg x1.natAbs).length = m := ⟨_, rfl⟩
    obtain ⟨m2, hm2⟩ : ∃ m, (dg x2.natAbs).length = m := ⟨_, rfl⟩
    obtain ⟨m3, hm3⟩ : ∃ m, (dg x3.natAbs).length = m := ⟨_, rfl⟩
    obtain ⟨m4, hm4⟩ : ∃ m, (dg x4).length = m := ⟨_, rfl⟩
    obtain ⟨s1, hs1⟩ : ∃ s, decide (x1 < 0) = s := ⟨_, rfl⟩
    obtain ⟨s2, hs2⟩ : ∃ s, decide (x2 < 0) = s := ⟨_, rfl⟩
    obtain ⟨s3, hs3⟩ : ∃ s, decide (x3 < 0) = s := ⟨_, rfl⟩
    obtain ⟨fa, hfa⟩ : ∃ fa, (dg p.den).length = fa := ⟨_, rfl⟩
    obtain ⟨fb, hfb⟩ : ∃ fb, (dg q.den).length = fb := ⟨_, rfl⟩
    have l1 : x1.natAbs < B ^ 41 := by rw [← hx1, Int.natAbs_mul]; exact hp.cross hq
    have l2 : x2.natAbs < B ^ 41 := by rw [← hx2, Int.natAbs_mul]; exact hq.cross hp
    have l3 : x1.natAbs + x2.natAbs < B ^ 42 := by
      have h3 : B ^ 41 + B ^ 41 ≤ B ^ 42 := by decide
      omega
    have l3' : x3.natAbs < B ^ 42 := by omega
    have l1' := dg_lo l1
    have l2' := dg_lo l2
    have l4' := dg_lo l3
    have l5' := dg_lo l3'
    have hx2B : x4 < B := by rw [← hx4]; exact hp.dens hq
    have hx20 : x4 ≠ 0 := by rw [← hx4]; exact Nat.mul_ne_zero p.den_nz q.den_nz
    have HDA : Hid (∀ V, Below W.heap.size W V → Calls Tryz.prog 56 #[.agg #[.bool sa, .slice NA na ca, .bool false, .slice DA ea cda]] V fun e w' => ∃ R c, e = .returned (.agg #[.bool false, .slice R fa c]) ∧ ND w' R c p.den ∧ Below V.heap.size V w') := Lib.hid (fun V h => by
      have := den_any sa NA DA na ca cda p.den V (hDX.keep h) p.den_nz (by have := hp.den; omega)
      rw [hea] at this
      unfold RetN at this
      rw [hfa] at this
      exact this)
    have HDB : Hid (∀ V, Below W.heap.size W V → Calls Tryz.prog 56 #[.agg #[.bool sb, .slice NB nb cb, .bool false, .slice DB eb cdb]] V fun e w' => ∃ R c, e = .returned (.agg #[.bool false, .slice R fb c]) ∧ ND w' R c q.den ∧ Below V.heap.size V w') := Lib.hid (fun V h => by
      have := den_any sb NB DB nb cb cdb q.den V (hDY.keep h) q.den_nz (by have := hq.den; omega)
      rw [heb] at this
      unfold RetN at this
      rw [hfb] at this
      exact this)
    have HM1 : Hid (∀ V R c, Below W.heap.size W V → ND V R c q.den → Calls Tryz.prog 55 #[.agg #[.bool sa, .slice NA na ca], .agg #[.bool false, .slice R fb c]] V fun e w' => ∃ M c, e = .returned (.agg #[.bool s1, .slice M m1 c]) ∧ ND w' M c x1.natAbs ∧ Below V.heap.size V w') := Lib.hid (fun V R c h h' => by
      have := imul_any p.num (q.den : Int) NA R ca c V (hX.keep h) h' (by omega) (by have := hq.den; simp only [Int.natAbs_natCast]; omega) (by rw [← Int.natAbs_mul, hx1]; omega)
      rw [hx1, hsa, hna, Int.natAbs_natCast, hfb, decide_eq_false (show ¬ (q.den : Int) < 0 by omega)] at this
      unfold RetZ at this
      rw [hs1, hm1] at this
      exact this)
    have HM2 : Hid (∀ V R c, Below W.heap.size W V → ND V R c p.den → Calls Tryz.prog 55 #[.agg #[.bool sb, .slice NB nb cb], .agg #[.bool false, .slice R fa c]] V fun e w' => ∃ M c, e = .returned (.agg #[.bool s2, .slice M m2 c]) ∧ ND w' M c x2.natAbs ∧ Below V.heap.size V w') := Lib.hid (fun V R c h h' => by
      have := imul_any q.num (p.den : Int) NB R cb c V (hY.keep h) h' (by omega) (by have := hp.den; simp only [Int.natAbs_natCast]; omega) (by rw [← Int.natAbs_mul, hx2]; omega)
      rw [hx2, hsb, hnb, Int.natAbs_natCast, hfa, decide_eq_false (show ¬ (p.den : Int) < 0 by omega)] at this
      unfold RetZ at this
      rw [hs2, hm2] at this
      exact this)
    have HA3 : Hid (∀ V R c R' c', ND V R c x1.natAbs → ND V R' c' x2.natAbs → Calls Tryz.prog 54 #[.agg #[.bool s1, .slice R m1 c], .agg #[.bool s2, .slice R' m2 c']] V fun e w' => ∃ M c, e = .returned (.agg #[.bool s3, .slice M m3 c]) ∧ ND w' M c x3.natAbs ∧ Below V.heap.size V w') := Lib.hid (fun V R c R' c' h h' => by
      have := iadd_any x1 x2 R R' c c' V h h' (by omega) (by omega) (by omega)
      rw [hx3, hs1, hs2, hm1, hm2] at this
      unfold RetZ at this
      rw [hs3, hm3] at this
      exact this)
    have HM4 : Hid (∀ V R c R' c', ND V R c p.den → ND V R' c' q.den → Calls Tryz.prog 55 #[.agg #[.bool false, .slice R fa c], .agg #[.bool false, .slice R' fb c']] V fun e w' => ∃ M c, e = .returned (.agg #[.bool false, .slice M m4 c]) ∧ ND w' M c x4 ∧ Below V.heap.size V w') := Lib.hid (fun V R c R' c' h h' => by
      have := nMul_any false false R R' c c' p.den q.den V h h' (by have := hp.den; omega) (by have := hq.den; omega) (by rw [hx4]; have := dg_lo (k := 1) (show x4 < B ^ 1 by simpa using hx2B); omega)
      rw [hx4, hfa, hfb] at this
      unfold RetSg at this
      rw [hm4] at this
      exact this)
    obtain ⟨r, hr⟩ : ∃ r, mkRat x3 x4 = r := ⟨_, rfl⟩
    obtain ⟨sr, hsr⟩ : ∃ s, decide (r.num < 0) = s := ⟨_, rfl⟩
    obtain ⟨nr, hnr⟩ : ∃ s, (dg r.num.natAbs).length = s := ⟨_, rfl⟩
    obtain ⟨er, her⟩ : ∃ s, (dg (dnz r.den)).length = s := ⟨_, rfl⟩
    have HF : Hid (∀ V R c R' c', ND V R c x3.natAbs → ND V R' c' x4 → Calls Tryz.prog 46 #[.agg #[.bool s3, .slice R m3 c], .agg #[.bool false, .slice R' m4 c']] V fun e w' => ∃ N cn D cd, e = .returned (.agg #[.bool sr, .slice N nr cn, .bool false, .slice D er cd]) ∧ ND w' N cn r.num.natAbs ∧ ND w' D cd (dnz r.den) ∧ Below V.heap.size V w') := Lib.hid (fun V R c R' c' h h' => by
      have := frac_q x3 x4 R R' c c' V h h' (by omega) hx2B hx20
      rw [hs3, hm3, hm4, hr] at this
      refine this.mono ?_
      rintro e w' ⟨v, rfl, ⟨N, cn, D, cd, rfl, k1, k2⟩, hb⟩
      exact ⟨N, cn, D, cd, by rw [hsr, hnr, her], k1, k2, hb⟩)
    have HR : Hid (p + q = r) := Lib.hid (by rw [Rat.add_def', hx1, hx2, hx3, hx4, ← hr])
    have HSR := Lib.hid hsr
    have HNR := Lib.hid hnr
    have HER := Lib.hid her
    have c1 : ((ea : Int) == 0) = decide (ea = 0) := by by_cases h : ea = 0 <;> simp [h]
    have c2 : ((eb : Int) == 0) = decide (eb = 0) := by by_cases h : eb = 0 <;> simp [h]
    have HRES : Hid (∀ (V : World) N cn D cd, Below W.heap.size W V → ND V N cn r.num.natAbs → ND V D cd (dnz r.den) → Blk V (w.heap.size + 1 + 1) 52 #[.bool false, .slice none 0 0, .bool false, .slice none 0 0] → RetQ (p + q) w (.returned (.agg #[.bool sr, .slice N nr cn, .bool false, .slice D er cd])) ((((V.setCell ⟨w.heap.size + 1 + 1, 0, none⟩ (.bool sr)).setCell ⟨w.heap.size + 1 + 1, 1, none⟩ (.slice N nr cn)).setCell ⟨w.heap.size + 1 + 1, 2, none⟩ (.bool false)).setCell ⟨w.heap.size + 1 + 1, 3, none⟩ (.slice D er cd))) := Lib.hid (fun V N cn D cd hb h1 h2 C => by
      refine ⟨_, rfl, ⟨N, cn, D, cd, ?_, ?_, ?_⟩, Below.four (below_all hbW hb) hwz⟩
      · rw [HR.out, HSR.out, HNR.out, HER.out]
      · rw [HR.out]; exact h1.four C (by decide)
      · rw [HR.out]; exact h2.four C (by decide))
    clear hW hea heb hsa hsb hna hnb hs1 hm1 hs2 hm2 hs3 hm3 hx3 hx4 hm4 hs0 hm0 hx0 l1 l2 l3 l3' l1' l2' l4' l5' hX hY hDX hDY hNA hNB hDA hDB B0 B1 B2 hp hq hx1 hpl hql hsl hx2 hfa hfb hx2B hx20 hr hsr hnr her HR
    by_cases h1 : ea = 0
    · have h2 : ¬ eb = 0 := fun h => hboth ⟨h1, h⟩
      rw [decide_eq_true h1] at c1
      rw [decide_eq_false h2] at c2
      have c1' : (ea == 0) = true := by simp [h1]
      have c2' : (eb == 0) = false := by simp [h2]
      clear hboth h1 h2
      go_enter Tryz.func25, Tryz.ntmps25
      go_upto_region 1 with (fail)
      rw [HW.out]
      go_upto_region 3 with (fail)
      go_region_held3 (fun w' => w'.cell? ⟨w.heap.size, 0, none⟩ = some (.bool sa) ∧ w'.cell? ⟨w.heap.size, 1, none⟩ = some (.slice NA na ca) ∧ w'.cell? ⟨w.heap.size, 2, none⟩ = some (.bool false) ∧ w'.cell? ⟨w.heap.size, 3, none⟩ = some (.slice DA ea cda) ∧ w'.cell? ⟨w.heap.size + 1, 0, none⟩ = some (.bool sb) ∧ w'.cell? ⟨w.heap.size + 1, 1, none⟩ = some (.slice NB nb cb) ∧ w'.cell? ⟨w.heap.size + 1, 2, none⟩ = some (.bool false) ∧ w'.cell? ⟨w.heap.size + 1, 3, none⟩ = some (.slice DB eb cdb))
        (first | exact ⟨keep_cell hbe a0, keep_cell hbe a1, keep_cell hbe a2, keep_cell hbe a3, keep_cell hbe b0, keep_cell hbe b1, keep_cell hbe b2, keep_cell hbe b3⟩ | exact ⟨cell_four (keep_cell hbe a0) (by simp; omega), cell_four (keep_cell hbe a1) (by simp; omega), cell_four (keep_cell hbe a2) (by simp; omega), cell_four (keep_cell hbe a3) (by simp; omega), cell_four (keep_cell hbe b0) (by simp), cell_four (keep_cell hbe b1) (by simp), cell_four (keep_cell hbe b2) (by simp), cell_four (keep_cell hbe b3) (by simp)⟩ | go_keep)
        (first
          | (go_at_call 56; with_reducible refine Calls.mono (HDA.out _ (by assumption)) ?_; rintro e w2 ⟨R1, k2, rfl, hR1', hb2⟩; (try have hM1 := hM1.keep hb2); (try have hM2 := hM2.keep hb2); (try have hR2 := hR2.keep hb2); (try have hA3 := hA3.keep hb2); have hR1 := hR1'; have hbe := below_all hbe hb2; have Y2 := HB2.out.keep hbe hl2; obtain ⟨d0, d1, d2, d3, f0, f1, f2, f3⟩ := Y2.four)
          | (go_at_call 56; with_reducible refine Calls.mono (HDB.out _ (by assumption)) ?_; rintro e w2 ⟨R2, k3, rfl, hR2', hb2⟩; (try have hM1 := hM1.keep hb2); (try have hM2 := hM2.keep hb2); (try have hR1 := hR1.keep hb2); (try have hA3 := hA3.keep hb2); have hR2 := hR2'; have hbe := below_all hbe hb2; have Y2 := HB2.out.keep hbe hl2; obtain ⟨d0, d1, d2, d3, f0, f1, f2, f3⟩ := Y2.four)
          | (go_at_call 55; with_reducible refine Calls.mono (HM1.out _ _ _ (by assumption) hR2) ?_; rintro e w2 ⟨M1, k1, rfl, hM1', hb2⟩; (try have hM2 := hM2.keep hb2); (try have hR1 := hR1.keep hb2); (try have hR2 := hR2.keep hb2); (try have hA3 := hA3.keep hb2); have hM1 := hM1'; have hbe := below_all hbe hb2; have Y2 := HB2.out.keep hbe hl2; obtain ⟨d0, d1, d2, d3, f0, f1, f2, f3⟩ := Y2.four)
          | (go_at_call 55; with_reducible refine Calls.mono (HM2.out _ _ _ (by assumption) hR1) ?_; rintro e w2 ⟨M2, k4, rfl, hM2', hb2⟩; (try have hM1 := hM1.keep hb2); (try have hR1 := hR1.keep hb2); (try have hR2 := hR2.keep hb2); (try have hA3 := hA3.keep hb2); have hM2 := hM2'; have hbe := below_all hbe hb2; have Y2 := HB2.out.keep hbe hl2; obtain ⟨d0, d1, d2, d3, f0, f1, f2, f3⟩ := Y2.four)
          | (go_at_call 54; with_reducible refine Calls.mono (HA3.out _ _ _ _ _ hM1 hM2) ?_; rintro e w2 ⟨A3, k5, rfl, hA3', hb2⟩; (try have hM1 := hM1.keep hb2); (try have hM2 := hM2.keep hb2); (try have hR1 := hR1.keep hb2); (try have hR2 := hR2.keep hb2); have hA3 := hA3'; have hbe := below_all hbe hb2; have Y2 := HB2.out.keep hbe hl2; obtain ⟨d0, d1, d2, d3, f0, f1, f2, f3⟩ := Y2.four)
          | (go_at_call 55; with_reducible refine Calls.mono (HM4.out _ _ _ _ _ hR1 hR2) ?_; rintro e w2 ⟨M4, k6, rfl, hM4, hb2⟩; (try have hM1 := hM1.keep hb2); (try have hM2 := hM2.keep hb2); (try have hR1 := hR1.keep hb2); (try have hR2 := hR2.keep hb2); (try have hA3 := hA3.keep hb2); have hbe := below_all hbe hb2; have Y2 := HB2.out.keep hbe hl2; obtain ⟨d0, d1, d2, d3, f0, f1, f2, f3⟩ := Y2.four)
          | (go_at_call 46; with_reducible refine Calls.mono (HF.out _ _ _ _ _ hA3 hM4) ?_; rintro e w2 ⟨N, cn, D, cd, rfl, hN, hD, hb2⟩; have hbe := below_all hbe hb2; have Y2 := HB2.out.keep hbe hl2; obtain ⟨d0, d1, d2, d3, f0, f1, f2, f3⟩ := Y2.four))
      all_goals
        go_wp2
        obtain ⟨g0, g1, g2, g3, _⟩ := (blk_four (a' := .bool sr) (b' := .slice N nr cn) (c' := .bool false) (d' := .slice D er cd) Y2).four
        exact bodyPost_ret (v := .agg #[.bool sr, .slice N nr cn, .bool false, .slice D er cd]) (by simp [results, Tryz.results25, go_sem, g0, g1, g2, g3]) rfl (HRES.out _ N cn D cd hbe hN hD Y2)
    · rw [decide_eq_false h1] at c1
      have c1' : (ea == 0) = false := by simp [h1]
      clear hboth h1 c2
      go_enter Tryz.func25, Tryz.ntmps25
      go_upto_region 1 with (fail)
      rw [HW.out]
      go_upto_region 3 with (fail)
      go_region_held3 (fun w' => w'.cell? ⟨w.heap.size, 0, none⟩ = some (.bool sa) ∧ w'.cell? ⟨w.heap.size, 1, none⟩ = some (.slice NA na ca) ∧ w'.cell? ⟨w.heap.size, 2, none⟩ = some (.bool false) ∧ w'.cell? ⟨w.heap.size, 3, none⟩ = some (.slice DA ea cda) ∧ w'.cell? ⟨w.heap.size + 1, 0, none⟩ = some (.bool sb) ∧ w'.cell? ⟨w.heap.size + 1, 1, none⟩ = some (.slice NB nb cb) ∧ w'.cell? ⟨w.heap.size + 1, 2, none⟩ = some (.bool false) ∧ w'.cell? ⟨w.heap.size + 1, 3, none⟩ = some (.slice DB eb cdb))
        (first | exact ⟨keep_cell hbe a0, keep_cell hbe a1, keep_cell hbe a2, keep_cell hbe a3, keep_cell hbe b0, keep_cell hbe b1, keep_cell hbe b2, keep_cell hbe b3⟩ | exact ⟨cell_four (keep_cell hbe a0) (by simp; omega), cell_four (keep_cell hbe a1) (by simp; omega), cell_four (keep_cell hbe a2) (by simp; omega), cell_four (keep_cell hbe a3) (by simp; omega), cell_four (keep_cell hbe b0) (by simp), cell_four (keep_cell hbe b1) (by simp), cell_four (keep_cell hbe b2) (by simp), cell_four (keep_cell hbe b3) (by simp)⟩ | go_keep)
        (first
          | (go_at_call 56; with_reducible refine Calls.mono (HDA.out _ (by assumption)) ?_; rintro e w2 ⟨R1, k2, rfl, hR1', hb2⟩; (try have hM1 := hM1.keep hb2); (try have hM2 := hM2.keep hb2); (try have hR2 := hR2.keep hb2); (try have hA3 := hA3.keep hb2); have hR1 := hR1'; have hbe := below_all hbe hb2; have Y2 := HB2.out.keep hbe hl2; obtain ⟨d0, d1, d2, d3, f0, f1, f2, f3⟩ := Y2.four)
          | (go_at_call 56; with_reducible refine Calls.mono (HDB.out _ (by assumption)) ?_; rintro e w2 ⟨R2, k3, rfl, hR2', hb2⟩; (try have hM1 := hM1.keep hb2); (try have hM2 := hM2.keep hb2); (try have hR1 := hR1.keep hb2); (try have hA3 := hA3.keep hb2); have hR2 := hR2'; have hbe := below_all hbe hb2; have Y2 := HB2.out.keep hbe hl2; obtain ⟨d0, d1, d2, d3, f0, f1, f2, f3⟩ := Y2.four)
          | (go_at_call 55; with_reducible refine Calls.mono (HM1.out _ _ _ (by assumption) hR2) ?_; rintro e w2 ⟨M1, k1, rfl, hM1', hb2⟩; (try have hM2 := hM2.keep hb2); (try have hR1 := hR1.keep hb2); (try have hR2 := hR2.keep hb2); (try have hA3 := hA3.keep hb2); have hM1 := hM1'; have hbe := below_all hbe hb2; have Y2 := HB2.out.keep hbe hl2; obtain ⟨d0, d1, d2, d3, f0, f1, f2, f3⟩ := Y2.four)
          | (go_at_call 55; with_reducible refine Calls.mono (HM2.out _ _ _ (by assumption) hR1) ?_; rintro e w2 ⟨M2, k4, rfl, hM2', hb2⟩; (try have hM1 := hM1.keep hb2); (try have hR1 := hR1.keep hb2); (try have hR2 := hR2.keep hb2); (try have hA3 := hA3.keep hb2); have hM2 := hM2'; have hbe := below_all hbe hb2; have Y2 := HB2.out.keep hbe hl2; obtain ⟨d0, d1, d2, d3, f0, f1, f2, f3⟩ := Y2.four)
          | (go_at_call 54; with_reducible refine Calls.mono (HA3.out _ _ _ _ _ hM1 hM2) ?_; rintro e w2 ⟨A3, k5, rfl, hA3', hb2⟩; (try have hM1 := hM1.keep hb2); (try have hM2 := hM2.keep hb2); (try have hR1 := hR1.keep hb2); (try have hR2 := hR2.keep hb2); have hA3 := hA3'; have hbe := below_all hbe hb2; have Y2 := HB2.out.keep hbe hl2; obtain ⟨d0, d1, d2, d3, f0, f1, f2, f3⟩ := Y2.four)
          | (go_at_call 55; with_reducible refine Calls.mono (HM4.out _ _ _ _ _ hR1 hR2) ?_; rintro e w2 ⟨M4, k6, rfl, hM4, hb2⟩; (try have hM1 := hM1.keep hb2); (try have hM2 := hM2.keep hb2); (try have hR1 := hR1.keep hb2); (try have hR2 := hR2.keep hb2); (try have hA3 := hA3.keep hb2); have hbe := below_all hbe hb2; have Y2 := HB2.out.keep hbe hl2; obtain ⟨d0, d1, d2, d3, f0, f1, f2, f3⟩ := Y2.four)
          | (go_at_call 46; with_reducible refine Calls.mono (HF.out _ _ _ _ _ hA3 hM4) ?_; rintro e w2 ⟨N, cn, D, cd, rfl, hN, hD, hb2⟩; have hbe := below_all hbe hb2; have Y2 := HB2.out.keep hbe hl2; obtain ⟨d0, d1, d2, d3, f0, f1, f2, f3⟩ := Y2.four))
      all_goals
        go_wp2
        obtain ⟨g0, g1, g2, g3, _⟩ := (blk_four (a' := .bool sr) (b' := .slice N nr cn) (c' := .bool false) (d' := .slice D er cd) Y2).four
        exact bodyPost_ret (v := .agg #[.bool sr, .slice N nr cn, .bool false, .slice D er cd]) (by simp [results, Tryz.results25, go_sem, g0, g1, g2, g3]) rfl (HRES.out _ N cn D cd hbe hN hD Y2)
end Go.Proofs.Tg
end
section
/- The harness's numbers: integers as rational numbers, texts, signs. -/
namespace Go.Proofs.Tg
open Go.RowKit Go.Gr Go.Bn Go.Rq Go.Qn
set_option maxHeartbeats 8000000
set_option maxRecDepth 100000
theorem r_q (z : Int) (h1 : -9223372036854775808 ≤ z) (h2 : z < 9223372036854775808) (w : World) :
    Calls Tryz.prog 52 #[.int .i64 z] w (RetQ (z : Rat) w) := by
  obtain ⟨W, hW⟩ : ∃ W, w.alloc (.cells #[.bool false, .slice none 0 0, .bool false, .slice none 0 0] 52) = W := ⟨_, rfl⟩
  have hbA : Below w.heap.size w W := by rw [← hW]; exact (Below.refl _ _).alloc (Nat.le_refl _) _
  have B0 : Blk W w.heap.size 52 #[.bool false, .slice none 0 0, .bool false, .slice none 0 0] := by rw [← hW]; exact Blk.new _ _ _
  have HWW := Lib.hid hW
  obtain ⟨s, hs⟩ : ∃ s, decide (z < 0) = s := ⟨_, rfl⟩
  obtain ⟨n, hn⟩ : ∃ n, (dg z.natAbs).length = n := ⟨_, rfl⟩
  have HFI : Hid (∀ V, Calls Tryz.prog 47 #[.int .i64 z] V fun e w' => ∃ R c, e = .returned (.agg #[.bool s, .slice R n c]) ∧ ND w' R c z.natAbs ∧ Below V.heap.size V w') := Lib.hid (fun V => by
    have := fromint_num z h1 h2 V
    unfold RetZ at this
    rw [hs, hn] at this
    exact this)
  have HS := Lib.hid hs
  have HN := Lib.hid hn
  clear hW hs hn
  obtain ⟨a0, a1, a2, a3, f0, f1, f2, f3⟩ := B0.four
  go_enter Tryz.func52, Tryz.ntmps52
  go_upto_region 1 with (fail)
  rw [HWW.out]
  go_wp2_with (go_at_call 47; refine (HFI.out _).mono ?_; rintro e w3 ⟨A, c, rfl, hD, hb3⟩; have B3 := B0.keep hb3 B0.lt; obtain ⟨a0, a1, a2, a3, f0, f1, f2, f3⟩ := B3.four)
  obtain ⟨g0, g1, g2, g3, _⟩ := (blk_four (a' := .bool s) (b' := .slice A n c) (c' := .bool false) (d' := .slice none 0 0) B3).four
  refine bodyPost_ret (v := .agg #[.bool s, .slice A n c, .bool false, .slice none 0 0]) (by simp [results, Tryz.results52, go_sem, g0, g1, g2, g3]) rfl ⟨_, rfl, ⟨A, c, none, 0, ?_, ?_, ?_⟩, Below.four (below_all hbA hb3) (Nat.le_refl _)⟩
  · change _ = Value.agg #[.bool (decide (z < 0)), .slice A (dg z.natAbs).length c, .bool false, .slice none (dg (dnz 1)).length 0]
    rw [HS.out, HN.out, dnz_one, dg_zero]; rfl
  · exact hD.four B3 (by decide)
  · change ND _ none 0 (dnz 1)
    rw [dnz_one]; exact ND.zero _
theorem dg_mg {n : Nat} (h : n < B) : dg n = mg n := by
  by_cases h0 : n = 0
  · subst h0; rw [dg_zero, mg_zero]
  · rw [dg_small h0 h, mg_pos h0]
theorem dg_dl {m : Nat} (h : m < B) : dg (dnz m) = dl m := by
  by_cases h0 : m = 1
  · subst h0; rw [dnz_one, dg_zero]; rfl
  · rw [dnz_pos h0, dl_pos h0, dg_mg h]
theorem text_q (q : Rat) (v : Value) (w : World) (h : QAt w v q) (hs : Sh q) :
    Calls Tryz.prog 22 #[v] w fun e w' => e = .returned (.string (qtx q)) ∧ Below w.heap.size w w' := by
  obtain ⟨N, cn, D, cd, rfl, h1, h2⟩ := h
  have b1 : q.num.natAbs < B := Nat.lt_of_lt_of_le hs.1 (by decide)
  have b2 : q.den < B := Nat.lt_of_lt_of_le hs.2 (by decide)
  have d1 := h1.digs
  have d2 := h2.digs
  rw [dg_mg b1] at d1 ⊢
  rw [dg_dl b2] at d2 ⊢
  exact text_any (decide (q.num < 0)) false N D cn cd q.num.natAbs q.den w d1 d2 hs.1 hs.2 q.den_nz
theorem rsign_q (q : Rat) (v : Value) (w : World) (h : QAt w v q) (hl : (dg q.num.natAbs).length ≤ 1000000) :
    Calls Tryz.prog 89 #[v] w fun e w' => e = .returned (.int .i64 q.num.sign) ∧ Below w.heap.size w w' := by
  obtain ⟨N, cn, D, cd, rfl, h1, h2⟩ := h
  refine rsign_any _ _ _ _ _ _ _ _ w hl _ ?_
  by_cases h0 : q.num < 0
  · rw [decide_eq_true h0, if_pos rfl, Int.sign_eq_neg_one_of_neg h0]
  · rw [decide_eq_false h0, if_neg (by decide)]
    by_cases h3 : q.num = 0
    · rw [h3]; simp [dg_zero]
    · rw [if_neg (by have := dg_len_pos.2 (show q.num.natAbs ≠ 0 by omega); omega), Int.sign_eq_one_of_pos (by omega)]
end Go.Proofs.Tg
end
section
/- The harness's tape: what a call that reads it leaves. -/
namespace Go.Proofs.Tg
open Go.RowKit Go.Gr Go.Bn Go.Rq
set_option maxHeartbeats 4000000
set_option maxRecDepth 100000
/-- What a call that turns nothing but block g leaves. -/
abbrev Tk (g : Nat) (w w' : World) : Prop := w.grownBy w' (some g)
theorem Tk.of {g : Nat} {w w' : World} (h : Below w.heap.size w w') : Tk g w w' := ⟨h.os, h.tape, h.output, h.size, fun k hk _ => h.block k hk⟩
theorem Tk.refl (g : Nat) (w : World) : Tk g w w := ⟨rfl, rfl, rfl, Nat.le_refl _, fun _ _ _ => rfl⟩
theorem Tk.trans {g : Nat} {w w' w'' : World} (h : Tk g w w') (k : Tk g w' w'') : Tk g w w'' :=
  ⟨k.os.trans h.os, k.tape.trans h.tape, k.output.trans h.output, Nat.le_trans h.size k.size, fun i hi hg => (k.block i (Nat.lt_of_lt_of_le hi h.size) hg).trans (h.block i hi hg)⟩
theorem Tk.then {g : Nat} {w w' w'' : World} (h : Tk g w w') (k : Below w'.heap.size w' w'') : Tk g w w'' := h.trans (Tk.of k)
theorem Tk.set (g : Nat) (w : World) (i : Nat) (u : Value) : Tk g w (w.setCell ⟨g, i, none⟩ u) :=
  ⟨rfl, rfl, rfl, by simp [World.setCell], fun k _ hk => Below.heap_setCell w _ u k (fun e => hk (by rw [e]))⟩
theorem Tk.drewN {g : Nat} {w w' : World} (h : Tk g w w') (n : Nat) : Tk g w (w'.drewN n) := ⟨h.os, h.tape, h.output, h.size, h.block⟩
/-- Seen from a world in which g was not yet made. -/
theorem Tk.below {g : Nat} {w0 w w' : World} (hb : Below w0.heap.size w0 w) (h : Tk g w w') (hg : w0.heap.size ≤ g) : Below w0.heap.size w0 w' :=
  hb.grown h hb.size (fun k hk => by injection hk with hk; omega)
theorem Digs.tk {g : Nat} {w w' : World} {A : Option Addr} {xs : List Nat} {t : TypeId} {cs : Array Value} (h : Digs w A xs) (hg : Tk g w w') (B : Blk w g t cs) (hne : t ≠ 137) : Digs w' A xs := by
  have ho := h.off_ty B hne
  refine ⟨⟨h.sl.len, fun hp => ?_⟩, fun hp ad e => ?_⟩
  · obtain ⟨ad, e, hlt, ha⟩ := h.sl.lies hp
    refine ⟨ad, e, Nat.lt_of_lt_of_le hlt hg.size, fun j u hu => hg.cell (ha j u hu) (by rw [add_block]; intro e2; injection e2 with e2; exact ho hp ad e e2)⟩
  · obtain ⟨cs, fz, hc⟩ := h.u32 hp ad e
    exact ⟨cs, fz, (hg.block _ (Array.getElem?_eq_some_iff.1 hc).1 (by intro e2; injection e2 with e2; exact ho hp ad e e2)).trans hc⟩
theorem ND.tk {g : Nat} {w w' : World} {A : Option Addr} {c n : Nat} {t : TypeId} {cs : Array Value} (h : ND w A c n) (hg : Tk g w w') (B : Blk w g t cs) (hne : t ≠ 137) : ND w' A c n := ⟨h.digs.tk hg B hne, h.cap, h.nilc⟩
theorem QAt.tk {g : Nat} {w w' : World} {v : Value} {q : Rat} {t : TypeId} {cs : Array Value} (h : QAt w v q) (hg : Tk g w w') (B : Blk w g t cs) (hne : t ≠ 137) : QAt w' v q := by
  obtain ⟨N, cn, D, cd, e, h1, h2⟩ := h
  exact ⟨N, cn, D, cd, e, h1.tk hg B hne, h2.tk hg B hne⟩
theorem own_tk {g : Nat} {w w' : World} {b sz n : Nat} {t : TypeId} {v : Value} {xs : List Value} (h : w.ownsRow b t sz v n xs) (hg : Tk g w w') (hb : g < b) : w'.ownsRow b t sz v n xs :=
  h.kept hg (by
    rcases h.2 with ⟨rfl, _⟩ | ⟨k, cap, cur, rfl, hk, _⟩
    · simp [Value.ownBlock]
    · refine .inr ?_
      simp only [Value.ownBlock, ne_eq]
      intro e; have : k = g := by simpa using e
      omega)
/-- The tape: a list of at most 400 ints, and how many of them have been read. -/
structure TapeAt (w : World) (g : Nat) : Prop where
  ex : ∃ (A : Option Addr) (c k : Nat) (xs : List Int), Blk w g 89 #[.slice A xs.length c, .int .i64 (k : Nat)] ∧ Ints w A xs ∧ (0 < xs.length → ∀ ad, A = some ad → ad.block < g) ∧ xs.length ≤ 400 ∧ k ≤ 400 ∧ ∀ x ∈ xs, -9223372036854775808 ≤ x ∧ x < 9223372036854775808
theorem TapeAt.keep {w w' : World} {g : Nat} (h : TapeAt w g) (hb : Below w.heap.size w w') : TapeAt w' g := by
  obtain ⟨A, c, k, xs, B, hS, hO, r⟩ := h.ex
  exact ⟨A, c, k, xs, B.keep hb B.lt, hS.keep hb, hO, r⟩
theorem TapeAt.blk {w : World} {g : Nat} (h : TapeAt w g) : ∃ cs, Blk w g 89 cs := by
  obtain ⟨A, c, k, xs, B, _⟩ := h.ex
  exact ⟨_, B⟩
theorem TapeAt.drewN {w : World} {g : Nat} (h : TapeAt w g) (n : Nat) : TapeAt (w.drewN n) g := by
  obtain ⟨A, c, k, xs, B, hS, hO, r⟩ := h.ex
  exact ⟨A, c, k, xs, B, hS.drewN n, hO, r⟩
theorem TapeAt.far {w : World} {g b : Nat} (h : TapeAt w g) (hb : g < b) (i : Nat) (u : Value) : TapeAt (w.setCell ⟨b, i, none⟩ u) g := by
  obtain ⟨A, c, k, xs, B, hS, hO, r⟩ := h.ex
  exact ⟨A, c, k, xs, B.far (by simp; omega) _, hS.far (fun h ad e => Nat.ne_of_lt (Nat.lt_trans (hO h ad e) hb)) _ _, hO, r⟩
theorem Tk.far {g b : Nat} {w V : World} (h : Tk g w V) (hb : w.heap.size ≤ b) (i : Nat) (u : Value) : Tk g w (V.setCell ⟨b, i, none⟩ u) :=
  ⟨h.os, h.tape, h.output, by have := h.size; simpa [World.setCell] using this, fun k hk hg => (Below.heap_setCell V _ u k (by simp; omega)).trans (h.block k hk hg)⟩
theorem TapeAt.lt {w : World} {g : Nat} (h : TapeAt w g) : g < w.heap.size := by
  obtain ⟨cs, B⟩ := h.blk
  exact B.lt
/-- What a call that reads the tape returns. -/
def RetT (g : Nat) (P : Value → World → Prop) (w : World) (e : Ending) (w' : World) : Prop := ∃ v, e = .returned v ∧ P v w' ∧ TapeAt w' g ∧ Tk g w w'
theorem tmod_lo (x : Int) {n : Int} (h : 0 < n) : -n < Int.tmod x n ∧ Int.tmod x n < n := by
  have h2 := Int.tmod_lt_of_pos x h
  have h3 := Int.tmod_lt_of_pos (-x) h
  rw [Int.neg_tmod] at h3
  omega
theorem next_any (g n : Nat) (w : World) (hT : TapeAt w g) (hn : 0 < n) (hn2 : n ≤ 1000000) :
    Calls Tryz.prog 16 #[.pointer (some ⟨g, 0, none⟩), .int .i64 (n : Nat)] w (RetT g (fun v _ => ∃ k : Nat, k < n ∧ v = .int .i64 (k : Nat)) w) := by
  obtain ⟨A, c, k, xs, B, hS, hO, hl, hk, hx⟩ := hT.ex
  have c0 := B.cell 0
  have c1 := B.cell 1
  have z0 := B.frozen 0
  have z1 := B.frozen 1
  simp at c0 c1
  have HB := Lib.hid B
  have HS := Lib.hid hS
  have HO := Lib.hid hO
  have HX := Lib.hid hx
  have HT := Lib.hid hT
  clear hS hO hx B hT
  obtain ⟨m, hm⟩ : ∃ m, xs.length = m := ⟨_, rfl⟩
  rw [hm] at c0 hl
  have HM := Lib.hid hm
  clear hm
  by_cases hlt : k < m
  · have d1 : decide ((m : Int) ≤ (k : Int)) = false := decide_eq_false (by omega)
    obtain ⟨ad, had, hc⟩ := Ints.at HS.out (k := k) (by rw [HM.out]; exact hlt)
    obtain ⟨x, hxe⟩ : ∃ x, xs[k]'(by rw [HM.out]; exact hlt) = x := ⟨_, rfl⟩
    have hxr := HX.out x (by rw [← hxe]; exact List.getElem_mem _)
    rw [hxe] at hc
    have HO2 := HO.out
    subst had
    have hab : ad.block ≠ g := Nat.ne_of_lt (HO2 (by rw [HM.out]; omega) ad rfl)
    obtain ⟨t, ht⟩ : ∃ t, Int.tmod x (n : Int) = t := ⟨_, rfl⟩
    have htb := tmod_lo x (n := (n : Int)) (by omega)
    rw [ht] at htb
    have w1 : IntKind.i64.wrap t = t := IntWalk.i64_in _ (by omega)
    have w2 : IntKind.i64.wrap (t + n) = t + n := IntWalk.i64_in _ (by omega)
    obtain ⟨r, hr⟩ : ∃ r : Nat, Int.tmod (t + n) (n : Int) = (r : Int) := by
      rw [Int.tmod_eq_emod_of_nonneg (by omega)]
      exact ⟨_, (Int.toNat_of_nonneg (Int.emod_nonneg _ (by omega))).symm⟩
    have hrl : r < n := by
      have := (tmod_lo (t + n) (n := (n : Int)) (by omega)).2
      omega
    have w3 : IntKind.i64.wrap (r : Int) = (r : Int) := IntWalk.i64_in _ (by omega)
    have nz : ((n : Int) == 0) = false := beq_eq_false_iff_ne.2 (by omega)
    have k0 : (0 : Int) ≤ (k : Int) := by omega
    have k1 : (k : Int) < (m : Int) := by omega
    have HT2 : Hid (∀ n1, TapeAt ((w.drewN n1).setCell ⟨g, 1, none⟩ (.int .i64 ((k : Int) + 1))) g) := Lib.hid (fun n1 => by
      refine ⟨some ad, c, k + 1, xs, ?_, (HS.out.drewN n1).far (fun h ad e => Nat.ne_of_lt (HO.out h ad e)) _ _, HO.out, by rw [HM.out]; exact hl, by omega, HX.out⟩
      have := (HB.out.drewN n1).set 1 (.int .i64 ((k : Int) + 1))
      simpa using this)
    clear hxe hxr htb HO2
    go_enter Tryz.func16, Tryz.ntmps16
    go_wp2
    go_quiet (fail)
    go_wp2
    go_quiet (fail)
    go_wp2
    go_ret
    exact ⟨_, rfl, ⟨r, hrl, rfl⟩, HT2.out _, (Tk.drewN (Tk.refl g w) _).trans (Tk.set _ _ _ _)⟩
  · have d1 : decide ((m : Int) ≤ (k : Int)) = true := decide_eq_true (by omega)
    go_enter Tryz.func16, Tryz.ntmps16
    go_wp2
    go_quiet (fail)
    go_wp2
    go_ret
    exact ⟨_, rfl, ⟨0, hn, rfl⟩, HT.out.drewN _, Tk.drewN (Tk.refl g w) _⟩
theorem new_any (A : Option Addr) (c : Nat) (xs : List Int) (w : World) (hS : Ints w A xs) (hc : xs.length ≤ c) (hx : ∀ x ∈ xs, -9223372036854775808 ≤ x ∧ x < 9223372036854775808) (hn : xs.length < 9223372036854775808) :
    Calls Tryz.prog 15 #[.slice A xs.length c] w fun e w' => ∃ g, e = .returned (.pointer (some ⟨g, 0, none⟩)) ∧ w.heap.size ≤ g ∧ TapeAt w' g ∧ Below w.heap.size w w' := by
  obtain ⟨m, hm⟩ : ∃ m, min xs.length 400 = m := ⟨_, rfl⟩
  have hm1 : m ≤ xs.length := by omega
  have hm2 : m ≤ 400 := by omega
  have e1 : min (xs.length : Int) 400 = (m : Int) := by omega
  have HT : Hid (TapeAt (w.alloc (.cells #[.slice A m c, .int .i64 0] 89)) w.heap.size) := Lib.hid (by
    have hl : (xs.take m).length = m := by rw [List.length_take]; omega
    have hS2 : Ints w A (xs.take m) := by
      refine ⟨by simp, fun hp => ?_⟩
      obtain ⟨ad, rfl, hlt, ha⟩ := hS.lies (by omega)
      refine ⟨ad, rfl, hlt, fun j u hu => ha j u ?_⟩
      have hj := (List.getElem?_eq_some_iff.1 hu).1
      rw [List.length_map] at hj
      rw [List.getElem?_map] at hu ⊢
      rwa [List.getElem?_take_of_lt (by omega)] at hu
    refine ⟨A, c, 0, xs.take m, ?_, hS2.alloc _, (fun h ad e => by obtain ⟨ad', e', hlt, _⟩ := hS2.lies h; rw [e] at e'; injection e' with e'; subst e'; exact hlt), by omega, by omega, fun x hx' => hx x (List.mem_of_mem_take hx')⟩
    rw [hl]; exact Blk.new _ _ _)
  obtain ⟨l, hl⟩ : ∃ l, xs.length = l := ⟨_, rfl⟩
  rw [hl] at hc e1 hn hm1 ⊢
  have hmi : (m : Int) ≤ (c : Int) := by omega
  have hm3 : (l ≤ 400 ∧ m = l) ∨ (¬ l ≤ 400 ∧ m = 400) := by omega
  clear hm hl hS hx e1
  rcases hm3 with ⟨h4, rfl⟩ | ⟨h4, rfl⟩
  · have h5 : (m : Int) ≤ 400 := by omega
    go_enter Tryz.func15, Tryz.ntmps15
    go_wp2
    go_ret
    refine ⟨_, rfl, Nat.le_refl _, ?_, (Below.refl _ _).alloc (Nat.le_refl _) _⟩
    first | exact HT.out | (rw [show (min (m : Int) 400).toNat = m by omega]; exact HT.out)
  · have h5 : ¬ (l : Int) ≤ 400 := by omega
    go_enter Tryz.func15, Tryz.ntmps15
    go_wp2
    go_ret
    refine ⟨_, rfl, Nat.le_refl _, ?_, (Below.refl _ _).alloc (Nat.le_refl _) _⟩
    first | exact HT.out | (rw [show (min (l : Int) 400).toNat = 400 by omega]; exact HT.out)
end Go.Proofs.Tg
end
