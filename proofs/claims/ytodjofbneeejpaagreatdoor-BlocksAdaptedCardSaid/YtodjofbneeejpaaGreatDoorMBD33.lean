/- Parts of the proof: BN30, CH3, RF2. -/
import Derived.Test.YtodjofbneeejpaaGreatDoorMBD10
import Derived.Test.YtodjofbneeejpaaGreatDoorMBD11
import Derived.Test.YtodjofbneeejpaaGreatDoorMBD14
import Derived.Test.YtodjofbneeejpaaGreatDoorMBD17
import Derived.Test.YtodjofbneeejpaaGreatDoorMBD23
import Derived.Test.YtodjofbneeejpaaGreatDoorMBD31
section
/- The harness's numbers: the quotient of rational numbers by a positive one (made from BN27 by mk_bn30.py). -/
namespace Go.Proofs.Tg
open Go.RowKit Go.Gr Go.Bn Go.Rq
set_option maxHeartbeats 16000000
set_option maxRecDepth 100000
theorem div_mk (p q : Rat) (hq : 0 < q.num) : p / q = mkRat (p.num * (q.den : Int)) (p.den * q.num.natAbs) := by
 obtain ⟨n, hn⟩ : ∃ n : Nat, q.num = n := ⟨q.num.toNat, by omega⟩
 have hn0 : n ≠ 0 := by omega
 have hinv : q⁻¹ = mkRat q.den n := by
  rw [Rat.inv_def, hn]
  rfl
 rw [Rat.div_def, hinv, hn, Int.natAbs_natCast]
 conv => lhs; lhs; rw [← Rat.mkRat_self p]
 rw [Rat.mkRat_mul_mkRat]
theorem rdiv_q (p q : Rat) (va vb : Value) (w : World) (ha : QAt w va p) (hb : QAt w vb q) (hp : QS p) (hq : QS q) (hq0 : 0 < q.num) (hq1 : q.num.natAbs < 65536) :
    Calls Tryz.prog 72 #[va, vb] w (RetQ (p / q) w) := by
  obtain ⟨NA, ca, DA, cda, rfl, hNA, hDA⟩ := ha
  obtain ⟨NB, cb, DB, cdb, rfl, hNB, hDB⟩ := hb
  obtain ⟨na, hna⟩ : ∃ na, (dg p.num.natAbs).length = na := ⟨_, rfl⟩
  obtain ⟨nb, hnb⟩ : ∃ nb, (dg q.num.natAbs).length = nb := ⟨_, rfl⟩
  obtain ⟨ea, hea⟩ : ∃ ea, (dg (dnz p.den)).length = ea := ⟨_, rfl⟩
  obtain ⟨eb, heb⟩ : ∃ eb, (dg (dnz q.den)).length = eb := ⟨_, rfl⟩
  obtain ⟨sa, hsa⟩ : ∃ sa, decide (p.num < 0) = sa := ⟨_, rfl⟩
  obtain ⟨sb, hsb⟩ : ∃ sb, decide (q.num < 0) = sb := ⟨_, rfl⟩
  rw [hna, hnb, hea, heb, hsa, hsb]
  obtain ⟨W, hW⟩ : ∃ W, ((w.alloc (.cells #[.bool sa, .slice NA na ca, .bool false, .slice DA ea cda] 109)).alloc (.cells #[.bool sb, .slice NB nb cb, .bool false, .slice DB eb cdb] 109)).alloc (.cells #[.bool false, .slice none 0 0, .bool false, .slice none 0 0] 109) = W := ⟨_, rfl⟩
  have B0 : Blk W w.heap.size 109 #[.bool sa, .slice NA na ca, .bool false, .slice DA ea cda] := by rw [← hW]; exact ((Blk.new _ _ _).alloc _).alloc _
  have B1 : Blk W (w.heap.size + 1) 109 #[.bool sb, .slice NB nb cb, .bool false, .slice DB eb cdb] := by
   rw [← hW]; have := (Blk.new (w.alloc (.cells #[.bool sa, .slice NA na ca, .bool false, .slice DA ea cda] 109)) 109 #[.bool sb, .slice NB nb cb, .bool false, .slice DB eb cdb]).alloc (.cells #[.bool false, .slice none 0 0, .bool false, .slice none 0 0] 109)
   simpa using this
  have B2 : Blk W (w.heap.size + 1 + 1) 109 #[.bool false, .slice none 0 0, .bool false, .slice none 0 0] := by
   rw [← hW]; have := Blk.new ((w.alloc (.cells #[.bool sa, .slice NA na ca, .bool false, .slice DA ea cda] 109)).alloc (.cells #[.bool sb, .slice NB nb cb, .bool false, .slice DB eb cdb] 109)) 109 #[.bool false, .slice none 0 0, .bool false, .slice none 0 0]
   simpa using this
  have hbW : Below w.heap.size w W := by rw [← hW]; exact (((Below.refl _ _).alloc (Nat.le_refl _) _).alloc (by simp) _).alloc (by simp; omega) _
  have hX := hNA.keep hbW
  have hY := hNB.keep hbW
  have hDX := hDA.keep hbW
  have hDY := hDB.keep hbW
  obtain ⟨x1, hx1⟩ : ∃ x1, p.num * (q.den : Int) = x1 := ⟨_, rfl⟩
  obtain ⟨m1, hm1⟩ : ∃ m1, (dg x1.natAbs).length = m1 := ⟨_, rfl⟩
  obtain ⟨s1, hs1⟩ : ∃ s1, decide (x1 < 0) = s1 := ⟨_, rfl⟩
  have hpl := hp.num
  have hql := hq.num
  have hx1l : (dg x1.natAbs).length ≤ 41 := by rw [← hx1, Int.natAbs_mul]; exact dg_lo (hp.cross hq)
  obtain ⟨fa, hfa⟩ : ∃ fa, (dg p.den).length = fa := ⟨_, rfl⟩
  obtain ⟨fb, hfb⟩ : ∃ fb, (dg q.den).length = fb := ⟨_, rfl⟩
  obtain ⟨x2, hx2⟩ : ∃ x2, p.den * q.num.natAbs = x2 := ⟨_, rfl⟩
  obtain ⟨m2, hm2⟩ : ∃ m2, (dg x2).length = m2 := ⟨_, rfl⟩
  have hsbf : sb = false := by rw [← hsb]; exact decide_eq_false (by omega)
  subst hsbf
  have hx2B : x2 < B := by
   rw [← hx2]
   exact Nat.lt_of_lt_of_le (Nat.mul_lt_mul'' hp.2 hq1) (by decide)
  have hx20 : x2 ≠ 0 := by rw [← hx2]; exact Nat.mul_ne_zero p.den_nz (by omega)
  have hqn1 : (dg q.num.natAbs).length ≤ 1 := dg_lo (Nat.lt_of_lt_of_le hq1 (by decide))
  have HSG : Hid (∀ V, Below W.heap.size W V → Calls Tryz.prog 71 #[.agg #[.bool false, .slice NB nb cb, .bool false, .slice DB eb cdb]] V fun e w' => e = .returned (.int .i64 1) ∧ Below V.heap.size V w') := Lib.hid (fun V h => by
   have := rsign_q q (.agg #[.bool false, .slice NB nb cb, .bool false, .slice DB eb cdb]) V ⟨NB, cb, DB, cdb, by rw [hsb, hnb, heb], hY.keep h, hDY.keep h⟩ (by omega)
   rw [Int.sign_eq_one_of_pos hq0] at this
   exact this)
  have HDA : Hid (∀ V, Below W.heap.size W V → Calls Tryz.prog 93 #[.agg #[.bool sa, .slice NA na ca, .bool false, .slice DA ea cda]] V fun e w' => ∃ R c, e = .returned (.agg #[.bool false, .slice R fa c]) ∧ ND w' R c p.den ∧ Below V.heap.size V w') := Lib.hid (fun V h => by
   have := den_any sa NA DA na ca cda p.den V (hDX.keep h) p.den_nz (by have := hp.den; omega)
   rw [hea] at this
   unfold RetN at this
   rw [hfa] at this
   exact this)
  have HDB : Hid (∀ V, Below W.heap.size W V → Calls Tryz.prog 93 #[.agg #[.bool false, .slice NB nb cb, .bool false, .slice DB eb cdb]] V fun e w' => ∃ R c, e = .returned (.agg #[.bool false, .slice R fb c]) ∧ ND w' R c q.den ∧ Below V.heap.size V w') := Lib.hid (fun V h => by
   have := den_any false NB DB nb cb cdb q.den V (hDY.keep h) q.den_nz (by have := hq.den; omega)
   rw [heb] at this
   unfold RetN at this
   rw [hfb] at this
   exact this)
  have HM1 : Hid (∀ V R c, Below W.heap.size W V → ND V R c q.den → Calls Tryz.prog 92 #[.agg #[.bool sa, .slice NA na ca], .agg #[.bool false, .slice R fb c]] V fun e w' => ∃ M c, e = .returned (.agg #[.bool s1, .slice M m1 c]) ∧ ND w' M c x1.natAbs ∧ Below V.heap.size V w') := Lib.hid (fun V R c h h' => by
   have := imul_any p.num (q.den : Int) NA R ca c V (hX.keep h) h' (by omega) (by have := hq.den; simp only [Int.natAbs_natCast]; omega) (by rw [← Int.natAbs_mul, hx1]; omega)
   rw [hx1, hsa, hna, Int.natAbs_natCast, hfb, decide_eq_false (show ¬ (q.den : Int) < 0 by omega)] at this
   unfold RetZ at this
   rw [hs1, hm1] at this
   exact this)
  have HM2 : Hid (∀ V R c, Below W.heap.size W V → ND V R c p.den → Calls Tryz.prog 92 #[.agg #[.bool false, .slice R fa c], .agg #[.bool false, .slice NB nb cb]] V fun e w' => ∃ M c, e = .returned (.agg #[.bool false, .slice M m2 c]) ∧ ND w' M c x2 ∧ Below V.heap.size V w') := Lib.hid (fun V R c h h' => by
   have := nMul_any false false R NB c cb p.den q.num.natAbs V h' (hY.keep h) (by have := hp.den; omega) (by omega) (by rw [hx2]; have := dg_lo (k := 1) (show x2 < B ^ 1 by simpa using hx2B); omega)
   rw [hx2, hfa, hnb] at this
   unfold RetSg at this
   rw [hm2] at this
   exact this)
  have HW := Lib.hid hW
  have HB2 := Lib.hid B2
  have hl2 := B2.lt
  have n1 : (w.heap.size = w.heap.size + 1 + 1) = False := eq_false (by omega)
  have n2 : (w.heap.size + 1 + 1 = w.heap.size) = False := eq_false (by omega)
  obtain ⟨a0, a1, a2, a3, _, _, _, _⟩ := B0.four
  obtain ⟨b0, b1, b2, b3, _, _, _, _⟩ := B1.four
  obtain ⟨d0, d1, d2, d3, f0, f1, f2, f3⟩ := B2.four
  have hbe : Below W.heap.size W W.drew := (Below.refl _ _).drew
  have hwz : w.heap.size ≤ w.heap.size + 1 + 1 := by omega
  obtain ⟨r, hr⟩ : ∃ r, mkRat x1 x2 = r := ⟨_, rfl⟩
  obtain ⟨sr, hsr⟩ : ∃ s, decide (r.num < 0) = s := ⟨_, rfl⟩
  obtain ⟨nr, hnr⟩ : ∃ s, (dg r.num.natAbs).length = s := ⟨_, rfl⟩
  obtain ⟨er, her⟩ : ∃ s, (dg (dnz r.den)).length = s := ⟨_, rfl⟩
  have HF : Hid (∀ V R c R' c', ND V R c x1.natAbs → ND V R' c' x2 → Calls Tryz.prog 91 #[.agg #[.bool s1, .slice R m1 c], .agg #[.bool false, .slice R' m2 c']] V fun e w' => ∃ N cn D cd, e = .returned (.agg #[.bool sr, .slice N nr cn, .bool false, .slice D er cd]) ∧ ND w' N cn r.num.natAbs ∧ ND w' D cd (dnz r.den) ∧ Below V.heap.size V w') := Lib.hid (fun V R c R' c' h h' => by
   have := frac_q x1 x2 R R' c c' V h h' (by omega) hx2B hx20
   rw [hs1, hm1, hm2, hr] at this
   refine this.mono ?_
   rintro e w' ⟨v, rfl, ⟨N, cn, D, cd, rfl, k1, k2⟩, hb⟩
   exact ⟨N, cn, D, cd, by rw [hsr, hnr, her], k1, k2, hb⟩)
  have HR : Hid (p / q = r) := Lib.hid (by rw [div_mk p q hq0, hx1, ← hr, hx2])
  have HSR := Lib.hid hsr
  have HNR := Lib.hid hnr
  have HER := Lib.hid her
  have HRES : Hid (∀ (V : World) N cn D cd, Below W.heap.size W V → ND V N cn r.num.natAbs → ND V D cd (dnz r.den) → Blk V (w.heap.size + 1 + 1) 109 #[.bool false, .slice none 0 0, .bool false, .slice none 0 0] → RetQ (p / q) w (.returned (.agg #[.bool sr, .slice N nr cn, .bool false, .slice D er cd])) ((((V.setCell ⟨w.heap.size + 1 + 1, 0, none⟩ (.bool sr)).setCell ⟨w.heap.size + 1 + 1, 1, none⟩ (.slice N nr cn)).setCell ⟨w.heap.size + 1 + 1, 2, none⟩ (.bool false)).setCell ⟨w.heap.size + 1 + 1, 3, none⟩ (.slice D er cd))) := Lib.hid (fun V N cn D cd hb h1 h2 C => by
   refine ⟨_, rfl, ⟨N, cn, D, cd, ?_, ?_, ?_⟩, Below.four (below_all hbW hb) hwz⟩
   ·rw [HR.out, HSR.out, HNR.out, HER.out]
   ·rw [HR.out]; exact h1.four C (by decide)
   ·rw [HR.out]; exact h2.four C (by decide))
  clear hW hea heb hsa hsb hna hnb hs1 hm1 hX hY hDX hDY hNA hNB hDA hDB B0 B1 B2 hp hq hx1 hpl hql hx1l hx2 hm2 hfa hfb hx2B hx20 hr hsr hnr her HR hq0 hq1 hqn1
  go_enter Tryz.func72, Tryz.ntmps72
  go_upto_region 1 with (fail)
  rw [HW.out]
  clear hbe
  go_upto_region 3 with (go_at_call 71; refine (HSG.out _ (Below.refl _ _)).mono ?_; rintro e w1 ⟨rfl, hb1⟩; have hbe := Below.drew hb1)
  go_region_held3 (fun w' => w'.cell? ⟨w.heap.size, 0, none⟩ = some (.bool sa) ∧ w'.cell? ⟨w.heap.size, 1, none⟩ = some (.slice NA na ca) ∧ w'.cell? ⟨w.heap.size, 2, none⟩ = some (.bool false) ∧ w'.cell? ⟨w.heap.size, 3, none⟩ = some (.slice DA ea cda) ∧ w'.cell? ⟨w.heap.size + 1, 0, none⟩ = some (.bool false) ∧ w'.cell? ⟨w.heap.size + 1, 1, none⟩ = some (.slice NB nb cb) ∧ w'.cell? ⟨w.heap.size + 1, 2, none⟩ = some (.bool false) ∧ w'.cell? ⟨w.heap.size + 1, 3, none⟩ = some (.slice DB eb cdb))
    (first | exact ⟨keep_cell hbe a0, keep_cell hbe a1, keep_cell hbe a2, keep_cell hbe a3, keep_cell hbe b0, keep_cell hbe b1, keep_cell hbe b2, keep_cell hbe b3⟩ | exact ⟨cell_four (keep_cell hbe a0) (by simp; omega), cell_four (keep_cell hbe a1) (by simp; omega), cell_four (keep_cell hbe a2) (by simp; omega), cell_four (keep_cell hbe a3) (by simp; omega), cell_four (keep_cell hbe b0) (by simp), cell_four (keep_cell hbe b1) (by simp), cell_four (keep_cell hbe b2) (by simp), cell_four (keep_cell hbe b3) (by simp)⟩ | go_keep)
    (first
      | (go_at_call 93; with_reducible refine Calls.mono (HDA.out _ (by assumption)) ?_; rintro e w2 ⟨R1, k2, rfl, hR1', hb2⟩; (try have hM1 := hM1.keep hb2); (try have hM2 := hM2.keep hb2); (try have hR1 := hR1.keep hb2); (try have hR2 := hR2.keep hb2); have hR1 := hR1'; have hbe := below_all hbe hb2; have Y2 := HB2.out.keep hbe hl2; obtain ⟨d0, d1, d2, d3, f0, f1, f2, f3⟩ := Y2.four)
      | (go_at_call 93; with_reducible refine Calls.mono (HDB.out _ (by assumption)) ?_; rintro e w2 ⟨R2, k3, rfl, hR2', hb2⟩; (try have hM1 := hM1.keep hb2); (try have hM2 := hM2.keep hb2); (try have hR1 := hR1.keep hb2); (try have hR2 := hR2.keep hb2); have hR2 := hR2'; have hbe := below_all hbe hb2; have Y2 := HB2.out.keep hbe hl2; obtain ⟨d0, d1, d2, d3, f0, f1, f2, f3⟩ := Y2.four)
      | (go_at_call 92; with_reducible refine Calls.mono (HM1.out _ _ _ (by assumption) hR2) ?_; rintro e w2 ⟨M1, k1, rfl, hM1', hb2⟩; (try have hM1 := hM1.keep hb2); (try have hM2 := hM2.keep hb2); (try have hR1 := hR1.keep hb2); (try have hR2 := hR2.keep hb2); have hM1 := hM1'; have hbe := below_all hbe hb2; have Y2 := HB2.out.keep hbe hl2; obtain ⟨d0, d1, d2, d3, f0, f1, f2, f3⟩ := Y2.four)
      | (go_at_call 92; with_reducible refine Calls.mono (HM2.out _ _ _ (by assumption) hR1) ?_; rintro e w2 ⟨M2, k4, rfl, hM2', hb2⟩; (try have hM1 := hM1.keep hb2); (try have hM2 := hM2.keep hb2); (try have hR1 := hR1.keep hb2); (try have hR2 := hR2.keep hb2); have hM2 := hM2'; have hbe := below_all hbe hb2; have Y2 := HB2.out.keep hbe hl2; obtain ⟨d0, d1, d2, d3, f0, f1, f2, f3⟩ := Y2.four)
      | (go_at_call 91; with_reducible refine Calls.mono (HF.out _ _ _ _ _ hM1 hM2) ?_; rintro e w2 ⟨N, cn, D, cd, rfl, hN, hD, hb2⟩; have hbe := below_all hbe hb2; have Y2 := HB2.out.keep hbe hl2; obtain ⟨d0, d1, d2, d3, f0, f1, f2, f3⟩ := Y2.four))
  all_goals
    go_wp2
    obtain ⟨g0, g1, g2, g3, _⟩ := (blk_four (a' := .bool sr) (b' := .slice N nr cn) (c' := .bool false) (d' := .slice D er cd) Y2).four
    exact bodyPost_ret (v := .agg #[.bool sr, .slice N nr cn, .bool false, .slice D er cd]) (by simp [results, Tryz.results72, go_sem, g0, g1, g2, g3]) rfl (HRES.out _ N cn D cd hbe hN hD Y2)
end Go.Proofs.Tg
end
section
/- What the products of involutions do to the places of a basis; the condition of the program's Adapted. Plain. -/
namespace Go.Pm
open Go.Gr Go.Mo
theorem imgs_ok {n : Nat} {l b : List (List Int)} (h : Sub n l) (hA : ∀ p ∈ prods n l, ActsOn n p b) (hl : ∀ m ∈ b, m.length = n) (hnd : b.Nodup) : ImOk (imgs n l b) b.length l.length := by
 have hpp := prods_perm h.perm
 have hlen : (imgs n l b).length = 2 ^ l.length := by unfold imgs; rw [List.length_map, prods_len]
 have hat : ∀ s, s < 2 ^ l.length → (imgs n l b).getD s [] = img n (pr n l s) b := fun s hs => by
  have h1 : s < (prods n l).length := by rw [prods_len]; exact hs
  unfold imgs pr
  simp [h1]
 have hperm : ∀ s, s < 2 ^ l.length → Perm b.length (img n (pr n l s) b) := fun s hs => img_perm hnd (hA _ (pr_mem hs)) (fun x hx y hy e => mv_inj (hpp _ (pr_mem hs)) (hl x hx) (hl y hy) e)
 have hpl : ∀ s i, s < 2 ^ l.length → plc (imgs n l b) i s = ((img n (pr n l s) b).getD i 0).toNat := fun s i hs => by unfold plc; rw [hat s hs]
 refine ⟨hlen, fun s i hs hi => ?_, fun i hi => ?_, fun s t i hs ht hi => ?_⟩
 ·rw [hpl s i hs]
  have := perm_get (hperm s hs) hi
  omega
 ·have h0 : 0 < 2 ^ l.length := Nat.pow_pos (by omega)
  have hu : pr n l 0 = unit n := by
   unfold pr
   rw [List.getD_eq_getElem?_getD, prods_zero]
   rfl
  rw [hpl 0 i h0, hu, img_unit hl hnd hi]
  omega
 ·have hx : s ^^^ t < 2 ^ l.length := Nat.xor_lt_two_pow hs ht
  have h1 := perm_get (hperm t ht) hi
  rw [hpl _ i hx, ← pr_xor h s t hs ht, img_cmp (hpp _ (pr_mem hs)) (hpp _ (pr_mem ht)) (hA _ (pr_mem ht)) hi, hpl t i ht, hpl s _ hs]
end Go.Pm
namespace Go.Proofs.Tg.Bk
open Go.Pm Go.Mo Go.Sp
theorem adapt_ok {l b : List (List Int)} (h : adE l b = 0) : Sub (adN l b) l ∧ (prods (adN l b) l).Nodup ∧ b.Nodup ∧ (∀ p ∈ prods (adN l b) l, ActsOn (adN l b) p b) ∧ ImOk (imgs (adN l b) l b) b.length l.length := by
 unfold adE at h
 by_cases h1 : chE l b = 0
 ·rw [if_neg (fun h2 => h2 h1)] at h
  by_cases h2 : b.Nodup
  ·rw [if_neg (fun h3 => h3 h2)] at h
   by_cases h3 : AdInd (adN l b) l
   ·rw [if_neg (fun h4 => h4 h3)] at h
    have hA : ∀ p ∈ prods (adN l b) l, ActsOn (adN l b) p b := fun p hp => Classical.byContradiction fun hn => by
     rw [if_pos ⟨p, hp, hn⟩] at h
     cases h
    obtain ⟨hp, h6, hd, _, _⟩ := adapt_facts h1
    obtain ⟨hS, hN⟩ := ind_sub (k := l.length) (fun a ha => ⟨(hp a ha).1, (hp a ha).2.1⟩) (Nat.le_refl _) (fun j hj _ => h3 j hj)
    rw [List.take_length] at hS hN
    exact ⟨hS, hN, h2, hA, imgs_ok hS hA (fun m hm => (hd m hm).1) h2⟩
   ·rw [if_pos h3] at h; cases h
  ·rw [if_pos h2] at h; cases h
 ·rw [if_pos h1] at h; exact absurd h h1
theorem adapt_signs {l b : List (List Int)} (h : adE l b = 0) : ∀ c, c < (imgs (adN l b) l b).length → SgOk c (imgs (adN l b) l b) b.length := fun c _ => (adapt_ok h).2.2.2.2.sgOk c
end Go.Proofs.Tg.Bk
end
section
/- The reference 19: image, acts, Action. -/
namespace Go.Proofs.Tg.Rf
open Go.RowKit Go.Gr Go.Sp Go.Ev Go.Pm Go.Mo
open Go.Proofs.Tg.Gp (findI find_any prow_info gp_risgroup)
open Go.Proofs.Tg.Bk (img_len img_at ints_new actE szE szE_ok isg_len)
open Go.Proofs.Tg.Sx (Rw cellR RowsK rows_lists)
set_option maxHeartbeats 4000000
set_option maxRecDepth 100000
def RetImage (n : Nat) (a : List Int) (l : List (List Int)) (w : World) (e : Ending) (w' : World) : Prop := Below w.heap.size w w' ∧
  ((¬ ActsOn n a l ∧ e = .returned (.tuple #[.slice none 0 0, .bool false])) ∨ (ActsOn n a l ∧ ∃ E c, e = .returned (.tuple #[.slice E l.length c, .bool true]) ∧ w'.ownsRow w.heap.size 3 1 (.slice E l.length c) l.length ((img n a l).map vi)))
theorem img_take {n : Nat} {a : List Int} {l : List (List Int)} {k : Nat} (h : k < l.length) : ((img n a l).take (k + 1)).map vi = ((img n a l).take k).map vi ++ [.int .i64 ((l.idxOf (mv n a l[k]) : Nat) : Int)] := by
 rw [List.take_succ_eq_append_getElem (by rw [img_len]; exact h), List.map_append, img_at]
 rfl
theorem image_any (A L : Option Addr) (cA cL n : Nat) (a : List Int) (l : List (List Int)) (w : World) (hA : Ints w A a) (ha : Perm n a) (hL : Lists w L l) (hd : ∀ m ∈ l, m.length = n) (hn : n ≤ 6) (hl : l.length ≤ 1000) :
    Calls Tryz.prog 79 #[.slice A n cA, .slice L l.length cL] w (RetImage n a l w) := by
  have HA := Lib.hid hA
  have HL := Lib.hid hL
  have HPA := Lib.hid ha
  have HD := Lib.hid hd
  obtain ⟨j0, hj0, hjz0, hjz1, hjz2⟩ := info_parts int_info
  clear hA hL ha hd
  go_enter Tryz.func79, Tryz.ntmps79
  go_wp2
  go_loopw [6, 7] (fun s6 s7 wr => ∃ (k : Nat) (E : Option Addr) (c : Nat), s7 = .int .i64 k ∧ k ≤ l.length ∧ s6 = .slice E k c ∧ Hid (∀ j (h : j < l.length), j < k → mv n a l[j] ∈ l) ∧ Hid (wr.ownsRow w.heap.size 3 1 (.slice E k c) k (((img n a l).take k).map vi)) ∧ Below w.heap.size w wr) (fun _ s7 _ => l.length - (intOf s7).toNat)
  case atStart => exact ⟨0, none, 0, rfl, Nat.zero_le _, rfl, Lib.hid (fun j _ h => absurd h (by omega)), Lib.hid (by simpa using World.ownsRow_nil _ _ _ _), Below.refl _ _⟩
  case round =>
   obtain ⟨wo, rfl⟩ : ∃ wo : World, wo = wr := ⟨_, rfl⟩
   obtain ⟨k, E, c, rfl, hk, rfl, HIN, HOW, hbo⟩ := hrel
   by_cases hkl : k < l.length
   ·obtain ⟨ad, Em, cm, rfl, hc0, hE⟩ := HL.out.at hkl
    have hml := HD.out l[k] (List.getElem_mem _)
    rw [hml] at hc0
    have hc := keep_cell hbo hc0
    have q0 : (0 : Int) ≤ (k : Int) := by omega
    have q1 : (k : Int) < (l.length : Int) := by omega
    have q3 : ((k : Int)).toNat = k := by omega
    have HMV := Lib.hid (moved_any A Em cA cm n a l[k] wo (HA.out.keep hbo) HPA.out (hE.keep hbo) hml hn)
    have hvl : (mv n a l[k]).length = n := mvF_len _ _ _ _
    have HFD : Hid (∀ V, Below wo.heap.size wo V → Blk V wo.heap.size 3 (iarr (mv n a l[k])) → Calls Tryz.prog 38 #[.slice (some ad) l.length cL, .slice (some ⟨wo.heap.size, 0, none⟩) n n] V fun e w' => e = .returned (.int .i64 (findI l (mv n a l[k]))) ∧ Below V.heap.size V w') := Lib.hid (fun V h hB => by
     have := find_any (some ad) cL l (some ⟨wo.heap.size, 0, none⟩) n (mv n a l[k]) V ((HL.out.keep hbo).keep h) (ints_new hB) (by omega) (fun x hx => by rw [HD.out x hx]; omega)
     rwa [hvl] at this)
    have HTK := Lib.hid (img_take (n := n) (a := a) hkl)
    have HSUC : Hid (mv n a l[k] ∈ l → ∀ j (h : j < l.length), j < k + 1 → mv n a l[j] ∈ l) := Lib.hid (fun hx j h hj => by
     by_cases he : j = k
     ·subst he; exact hx
     ·exact HIN.out j h (by omega))
    have HBAD : Hid (mv n a l[k] ∉ l → ¬ ActsOn n a l) := Lib.hid (fun hx h => hx (h _ (List.getElem_mem _)))
    clear hml hE hc0 hvl
    generalize mv n a l[k] = x at *
    by_cases hin : x ∈ l
    ·have hfi : findI l x = ((l.idxOf x : Nat) : Int) := by unfold findI; rw [if_pos hin]
     rw [hfi] at HFD
     have HIN2 := Lib.hid (HSUC.out hin)
     clear hfi hin HSUC HBAD
     generalize l.idxOf x = p at *
     have d0 : decide ((p : Int) < 0) = false := decide_eq_false (by omega)
     have hown := HOW.out
     go_wp2_with (first
       | (go_at_call 100; refine HMV.out.mono ?_; rintro e w2 ⟨rfl, hB2, hb2⟩)
       | (go_at_call 38; refine (HFD.out _ hb2 hB2).mono ?_; rintro e w3 ⟨rfl, hb3⟩
          have hown3 := own_below (own_below hown hb2 (Nat.le_refl _)) hb3 (Nat.le_refl _)
          have hbw3 := below_all (below_all hbo hb2) hb3)
       | (at_builtin
          refine wpList_append_own_at _ rfl _ _ 22 rfl w.heap.size 3 j0 (.int .i64 0) 1 8 Tryz.underlying22 hj0 hjz0 hjz1 hjz2 rfl (by decide) (.slice E k c) k (((img n a l).take k).map vi) rfl (hown3.alloc _) ⟨w3.heap.size, 0, none⟩ 1 1 [.int .i64 (p : Int)] rfl rfl (cell_one_new _ _ _) (by simp [Value.oneCell']) (by simp only [maxLen]; omega) (by omega) (by have := hbw3.size; simp; omega) ?_
          intro v7 w7 hown7 hg7 _ _
          obtain ⟨A7, c7, hv7, _, _⟩ := Sl.of_own hown7
          subst hv7))
     go_roundw
     case rel =>
      exact ⟨k + 1, A7, c7, by go_num, by omega, rfl, HIN2, Lib.hid (by rw [HTK.out]; exact hown7), (hbw3.alloc hbw3.size _).grown hg7 (by have := hbw3.size; simp; omega) (fun q hq => (hown3.lt q hq).1)⟩
     case measure => simp [intOf]; omega
    ·have hfi : findI l x = -1 := by unfold findI; rw [if_neg hin]
     rw [hfi] at HFD
     have HNO := Lib.hid (HBAD.out hin)
     clear hfi hin HSUC HBAD
     go_wp2_with (first
       | (go_at_call 100; refine HMV.out.mono ?_; rintro e w2 ⟨rfl, hB2, hb2⟩)
       | (go_at_call 38; refine (HFD.out _ hb2 hB2).mono ?_; rintro e w3 ⟨rfl, hb3⟩))
     go_ret2
     exact ⟨below_all (below_all hbo hb2) hb3, .inl ⟨HNO.out, rfl⟩⟩
   ·obtain rfl : k = l.length := by omega
    have hown := HOW.out
    rw [List.take_of_length_le (by rw [img_len]; exact Nat.le_refl _)] at hown
    have HOF := Lib.hid hown
    have HAC : Hid (ActsOn n a l) := Lib.hid (fun m hm => by
     obtain ⟨j, hj, rfl⟩ := List.getElem_of_mem hm
     exact HIN.out j hj hj)
    have dk : decide ((l.length : Int) < (l.length : Int)) = false := by simp
    clear hown
    go_wp2
    go_ret2
    exact ⟨hbo, .inr ⟨HAC.out, E, c, rfl, HOF.out⟩⟩
theorem RetImage.yes {n : Nat} {a : List Int} {l : List (List Int)} {w w' : World} {e : Ending} (h : RetImage n a l w e w') (ha : ActsOn n a l) : Below w.heap.size w w' ∧ ∃ E c, e = .returned (.tuple #[.slice E l.length c, .bool true]) ∧ w'.ownsRow w.heap.size 3 1 (.slice E l.length c) l.length ((img n a l).map vi) := by
 rcases h with ⟨hb, ⟨h, _⟩ | ⟨_, h⟩⟩
 ·exact absurd ha h
 ·exact ⟨hb, h⟩
theorem RetImage.no {n : Nat} {a : List Int} {l : List (List Int)} {w w' : World} {e : Ending} (h : RetImage n a l w e w') (ha : ¬ ActsOn n a l) : Below w.heap.size w w' ∧ e = .returned (.tuple #[.slice none 0 0, .bool false]) := by
 rcases h with ⟨hb, ⟨_, h⟩ | ⟨h, _⟩⟩
 ·exact ⟨hb, h⟩
 ·exact absurd h ha
/-- What the loop of acts holds. -/
structure RaSt (w : World) (n : Nat) (g l : List (List Int)) (wr : World) (k : Nat) (A : Option Addr) (c : Nat) (rs : List Rw) : Prop where
  below : Below w.heap.size w wr
  own : wr.ownsRow w.heap.size 22 1 (.slice A rs.length c) rs.length (rs.map cellR)
  rows : RowsK w wr w.heap.size rs
  eq : rs.map (fun r => r.2.2) = (g.take k).map fun a => img n a l
  acts : ∀ j (h : j < g.length), j < k → ActsOn n g[j] l
def RetActs (n : Nat) (g l : List (List Int)) (w : World) (e : Ending) (w' : World) : Prop := Below w.heap.size w w' ∧
  ((actE n g l ≠ 0 ∧ e = .returned (.tuple #[.slice none 0 0, .int .i64 (actE n g l)])) ∨ (actE n g l = 0 ∧ ∃ A c, e = .returned (.tuple #[.slice A g.length c, .int .i64 0]) ∧ Lists w' A (g.map fun a => img n a l)))
theorem nodup_idx {l : List (List Int)} : l.Nodup ↔ ∀ i (h : i < l.length), l.idxOf l[i] = i := by
 constructor
 ·intro hn i h
  exact Bk.idxL_at hn h
 ·intro h
  refine List.pairwise_iff_getElem.2 (fun i j hi hj hij e => ?_)
  have h1 := h i hi
  have h2 := h j hj
  rw [e] at h1
  omega
theorem racts_any (G L : Option Addr) (cG cL n : Nat) (g l : List (List Int)) (w : World) (hG : Lists w G g) (hg : ∀ a ∈ g, Perm n a) (hgl : g.length ≤ 1000) (hL : Lists w L l) (hll : ∀ x ∈ l, x.length ≤ 1000) (hn : n ≤ 6) (hl : l.length ≤ 1000) :
    Calls Tryz.prog 48 #[.slice G g.length cG, .int .i64 n, .slice L l.length cL] w (RetActs n g l w) := by
  have HG := Lib.hid hG
  have HP := Lib.hid hg
  have HL := Lib.hid hL
  have HLL := Lib.hid hll
  obtain ⟨j0, hj0, hjz0, hjz1, hjz2⟩ := info_parts prow_info
  clear hG hg hL hll
  go_enter Tryz.func48, Tryz.ntmps48
  go_wp2
  go_loopw [8] (fun s8 wr => ∃ k : Nat, s8 = .int .i64 k ∧ k ≤ l.length ∧ Hid (∀ j (h : j < l.length), j < k → l[j].length = n) ∧ w = wr) (fun s8 _ => l.length - (intOf s8).toNat)
  case atStart => exact ⟨0, rfl, Nat.zero_le _, Lib.hid (fun j _ h => absurd h (by omega)), rfl⟩
  case round =>
   obtain ⟨k, rfl, hk, HN, rfl⟩ := hrel
   by_cases hkl : k < l.length
   ·obtain ⟨ad, E, ce, rfl, hc, _⟩ := HL.out.at hkl
    have q0 : (0 : Int) ≤ (k : Int) := by omega
    have q1 : (k : Int) < (l.length : Int) := by omega
    have q3 : ((k : Int)).toNat = k := by omega
    by_cases he : l[k].length = n
    ·have d1 : decide ((l[k].length : Int) = (n : Int)) = true := decide_eq_true (by omega)
     have d2 : decide (l[k].length = n) = true := decide_eq_true he
     have d3 : (((l[k].length : Nat) : Int) == (n : Int)) = true := beq_iff_eq.2 (by omega)
     have HN2 : Hid (∀ j (h : j < l.length), j < k + 1 → l[j].length = n) := Lib.hid (fun j h hj => by
      by_cases h2 : j = k
      ·subst h2; exact he
      ·exact HN.out j h (by omega))
     clear he
     generalize l[k] = x at hc d1 d2 d3
     go_wp2
     go_roundw
     case rel => exact ⟨k + 1, by go_num, by omega, HN2, trivial⟩
     case measure => simp [intOf]; omega
    ·have d1 : decide ((l[k].length : Int) = (n : Int)) = false := decide_eq_false (by omega)
     have d2 : decide (l[k].length = n) = false := decide_eq_false he
     have d3 : (((l[k].length : Nat) : Int) == (n : Int)) = false := beq_eq_false_iff_ne.2 (by omega)
     have HE4 : Hid (actE n g l = 4) := Lib.hid (by
      have : szE n l = 4 := by unfold szE; rw [if_pos ⟨_, List.getElem_mem hkl, he⟩]
      unfold actE
      rw [if_pos (by rw [this]; decide), this])
     clear he
     generalize l[k] = x at hc d1 d2 d3
     go_wp2
     go_ret2
     exact ⟨Below.refl _ _, .inl ⟨by rw [HE4.out]; decide, by rw [HE4.out]; rfl⟩⟩
   ·obtain rfl : k = l.length := by omega
    have dk : decide ((l.length : Int) < (l.length : Int)) = false := by simp
    have HLN : Hid (∀ m ∈ l, m.length = n) := Lib.hid (fun m hm => by
     obtain ⟨j, hj, rfl⟩ := List.getElem_of_mem hm
     exact HN.out j hj hj)
    have HSZ : Hid (szE n l = if l.length = 0 ∨ 64 < l.length then 2 else 0) := Lib.hid (by
     unfold szE
     rw [if_neg (by rintro ⟨m, hm, hne⟩; exact hne (HLN.out m hm))])
    clear HN
    by_cases h0 : l.length = 0
    ·have HE2 : Hid (actE n g l = 2) := Lib.hid (by
      have : szE n l = 2 := by rw [HSZ.out, if_pos (.inl h0)]
      unfold actE
      rw [if_pos (by rw [this]; decide), this])
     have d1 : decide ((l.length : Int) = 0) = true := decide_eq_true (by omega)
     have d2 : decide (l.length = 0) = true := decide_eq_true h0
     have d3 : (((l.length : Nat) : Int) == 0) = true := beq_iff_eq.2 (by omega)
     clear h0
     go_wp2
     go_ret2
     exact ⟨Below.refl _ _, .inl ⟨by rw [HE2.out]; decide, by rw [HE2.out]; rfl⟩⟩
    ·have d1 : decide ((l.length : Int) = 0) = false := decide_eq_false (by omega)
     have d2 : decide (l.length = 0) = false := decide_eq_false h0
     have d3 : (((l.length : Nat) : Int) == 0) = false := beq_eq_false_iff_ne.2 (by omega)
     by_cases h6 : 64 < l.length
     ·have HE2 : Hid (actE n g l = 2) := Lib.hid (by
       have : szE n l = 2 := by rw [HSZ.out, if_pos (.inr h6)]
       unfold actE
       rw [if_pos (by rw [this]; decide), this])
      have e1 : decide ((64 : Int) < (l.length : Int)) = true := decide_eq_true (by omega)
      have e2 : decide (64 < l.length) = true := decide_eq_true h6
      clear h0 h6
      go_wp2
      go_ret2
      exact ⟨Below.refl _ _, .inl ⟨by rw [HE2.out]; decide, by rw [HE2.out]; rfl⟩⟩
     ·have HZ : Hid (szE n l = 0) := Lib.hid (by rw [HSZ.out, if_neg (by rintro (h | h) <;> contradiction)])
      have e1 : decide ((64 : Int) < (l.length : Int)) = false := decide_eq_false (by omega)
      have e2 : decide (64 < l.length) = false := decide_eq_false h6
      have hl64 : l.length ≤ 64 := by omega
      have HL0 : Hid (0 < l.length) := Lib.hid (by omega)
      clear h0 h6 HSZ
      go_wp2
      clear d1 d2 d3 e1 e2
      go_loopw [9] (fun s9 wr => ∃ k : Nat, s9 = .int .i64 k ∧ k ≤ l.length ∧ Hid (∀ j (h : j < l.length), j < k → l.idxOf l[j] = j) ∧ Below w.heap.size w wr) (fun s9 _ => l.length - (intOf s9).toNat)
      case atStart => exact ⟨0, rfl, Nat.zero_le _, Lib.hid (fun j _ h => absurd h (by omega)), Below.refl _ _⟩
      case round =>
       obtain ⟨wo, rfl⟩ : ∃ wo : World, wo = wr := ⟨_, rfl⟩
       obtain ⟨k, rfl, hk, HIX, hbo⟩ := hrel
       by_cases hkl : k < l.length
       ·obtain ⟨ad, E, ce, rfl, hc0, hE⟩ := HL.out.at hkl
        have hc := keep_cell hbo hc0
        have hml := HLN.out l[k] (List.getElem_mem _)
        have HFD := Lib.hid (find_any (some ad) cL l E ce l[k] wo (HL.out.keep hbo) (hE.keep hbo) (by omega) HLL.out)
        have hfi : findI l l[k] = ((l.idxOf l[k] : Nat) : Int) := by unfold findI; rw [if_pos (List.getElem_mem _)]
        rw [hfi, hml] at HFD
        rw [hml] at hc
        have q0 : (0 : Int) ≤ (k : Int) := by omega
        have q1 : (k : Int) < (l.length : Int) := by omega
        have q3 : ((k : Int)).toNat = k := by omega
        by_cases hix : l.idxOf l[k] = k
        ·have HIX2 : Hid (∀ j (h : j < l.length), j < k + 1 → l.idxOf l[j] = j) := Lib.hid (fun j h hj => by
          by_cases he : j = k
          ·subst he; exact hix
          ·exact HIX.out j h (by omega))
         rw [hix] at HFD
         clear hix hfi hE hc0 hml
         go_wp2_with (go_at_call 38; refine HFD.out.mono ?_; rintro e w3 ⟨rfl, hb3⟩)
         go_roundw
         case rel => exact ⟨k + 1, by go_num, by omega, HIX2, below_all hbo hb3⟩
         case measure => simp [intOf]; omega
        ·have HE10 : Hid (actE n g l = 10) := Lib.hid (by
          unfold actE
          rw [if_neg (by rw [HZ.out]; simp), if_pos (fun hn => hix (nodup_idx.1 hn k hkl))])
         obtain ⟨p, hp⟩ : ∃ p, l.idxOf l[k] = p := ⟨_, rfl⟩
         rw [hp] at HFD hix
         have d1 : decide ((p : Int) = (k : Int)) = false := decide_eq_false (by omega)
         have d2 : decide (p = k) = false := decide_eq_false hix
         have d3 : ((p : Int) == (k : Int)) = false := beq_eq_false_iff_ne.2 (by omega)
         clear hp hix hfi hE hc0 hml
         go_wp2_with (go_at_call 38; refine HFD.out.mono ?_; rintro e w3 ⟨rfl, hb3⟩)
         go_ret2
         exact ⟨below_all hbo hb3, .inl ⟨by rw [HE10.out]; decide, by rw [HE10.out]; rfl⟩⟩
       ·obtain rfl : k = l.length := by omega
        have HND : Hid l.Nodup := Lib.hid (nodup_idx.2 (fun i h => HIX.out i h h))
        clear HIX
        go_wp2
        have H0 : Hid (RaSt w n g l wo 0 none 0 []) := Lib.hid ⟨hbo, World.ownsRow_nil _ _ _ _, fun r hr => absurd hr (by simp), by simp, fun j _ h => absurd h (by omega)⟩
        go_loopw [10, 11] (fun s10 s11 wr => ∃ (j : Nat) (A : Option Addr) (c : Nat) (rs : List Rw), s11 = .int .i64 j ∧ j ≤ g.length ∧ s10 = .slice A rs.length c ∧ Hid (RaSt w n g l wr j A c rs)) (fun _ s11 _ => g.length - (intOf s11).toNat)
        case atStart => exact ⟨0, none, 0, [], rfl, Nat.zero_le _, rfl, H0⟩
        case round =>
         clear H0 hbo
         obtain ⟨wi, rfl⟩ : ∃ wi : World, wi = wr := ⟨_, rfl⟩
         obtain ⟨j, A, c, rs, rfl, hj, rfl, HST⟩ := hrel
         have hbi := HST.out.below
         by_cases hjl : j < g.length
         ·obtain ⟨ad, E, ce, rfl, hc0, hE⟩ := HG.out.at hjl
          have hpk := HP.out g[j] (List.getElem_mem _)
          rw [hpk.1] at hc0
          have hc := keep_cell hbi hc0
          have q0 : (0 : Int) ≤ (j : Int) := by omega
          have q1 : (j : Int) < (g.length : Int) := by omega
          have q3 : ((j : Int)).toNat = j := by omega
          have HIM := Lib.hid (image_any E L ce cL n g[j] l wi (hE.keep hbi) hpk (HL.out.keep hbi) HLN.out hn hl)
          have HTK : Hid ((g.take (j + 1)).map (fun a => img n a l) = (g.take j).map (fun a => img n a l) ++ [img n g[j] l]) := Lib.hid (by rw [List.take_succ_eq_append_getElem hjl, List.map_append]; rfl)
          have HLR : Hid (rs.length = j) := Lib.hid (by
           have := congrArg List.length HST.out.eq
           rw [List.length_map, List.length_map, List.length_take] at this
           omega)
          have hrl : rs.length ≤ 1000 := by rw [HLR.out]; omega
          by_cases hact : ActsOn n g[j] l
          ·have HIY := Lib.hid (HIM.out.mono fun _ _ h => h.yes hact)
           have HYES : Hid (∀ i (h : i < g.length), i < j + 1 → ActsOn n g[i] l) := Lib.hid (fun i h hi => by
            by_cases he : i = j
            ·subst he; exact hact
            ·exact HST.out.acts i h (by omega))
           clear HIM hact hpk hE hc0
           generalize g[j] = x at *
           have hown := HST.out.own
           go_wp2_with (first
             | (go_at_call 79; refine HIY.out.mono ?_; rintro e w4 ⟨hb4, E4, c4, rfl, hO4⟩
                have hown4 := own_below hown hb4 (Nat.le_refl _)
                have hbw4 := below_all hbi hb4)
             | (at_builtin
                refine wpList_append_own_at _ rfl _ _ 23 rfl w.heap.size 22 j0 (.slice none 0 0) 1 24 Tryz.underlying23 hj0 hjz0 hjz1 hjz2 rfl (by decide) (.slice A rs.length c) rs.length (rs.map cellR) rfl (hown4.alloc _) ⟨w4.heap.size, 0, none⟩ 1 1 [.slice E4 l.length c4] rfl rfl (cell_one_new _ _ _) (by simp [Value.oneCell']) (by simp only [maxLen]; omega) (by omega) (by have := hbw4.size; simp; omega) ?_
                intro v7 w7 hown7 hg7 _ _
                obtain ⟨A7, c7, hv7, _, _⟩ := Sl.of_own hown7
                subst hv7))
           go_roundw
           case rel =>
            have hal := Below.alloc (Below.refl w4.heap.size w4) (Nat.le_refl _) (.cells #[.slice E4 l.length c4] 22)
            have hox := hown4.alloc (.cells #[.slice E4 l.length c4] 22)
            have hcr : cellR (E4, c4, img n x l) = .slice E4 l.length c4 := by unfold cellR; simp [img_len]
            have h1 := (((HST.out.rows.below hb4).below hal).kept hox hg7)
            have h2 := (own_below (own_base hO4 hbi.size) hal (Nat.le_refl _)).kept hg7 (own_ne (own_below (own_base hO4 hbi.size) hal (Nat.le_refl _)) hox (by decide))
            refine ⟨j + 1, A7, c7, rs ++ [(E4, c4, img n x l)], by go_num, by omega, by simp, Lib.hid ⟨(hbw4.alloc hbw4.size _).grown hg7 (by have := hbw4.size; simp; omega) (fun q hq => (hown4.lt q hq).1), ?_, h1.snoc (.inr ?_), ?_, HYES.out⟩⟩
            ·rw [List.length_append, List.map_append, List.map_singleton, hcr]; exact hown7
            ·rw [hcr, img_len]; exact h2
            ·rw [List.map_append, HST.out.eq, HTK.out]; rfl
           case measure => simp [intOf]; omega
          ·have HIN := Lib.hid (HIM.out.mono fun _ _ h => h.no hact)
           have HE8 : Hid (actE n g l = 8) := Lib.hid (by
            unfold actE
            rw [if_neg (by rw [HZ.out]; simp), if_neg (fun h2 => h2 HND.out), if_pos ⟨_, List.getElem_mem hjl, hact⟩])
           clear HIM hact hpk hE hc0
           generalize g[j] = x at *
           go_wp2_with (go_at_call 79; refine HIN.out.mono ?_; rintro e w4 ⟨hb4, rfl⟩)
           go_ret2
           exact ⟨below_all hbi hb4, .inl ⟨by rw [HE8.out]; decide, by rw [HE8.out]; rfl⟩⟩
         ·obtain rfl : j = g.length := by omega
          have HER : Hid (actE n g l = 0) := Lib.hid (by
           unfold actE
           rw [if_neg (by rw [HZ.out]; simp), if_neg (fun h2 => h2 HND.out), if_neg (by
            rintro ⟨a, ha, hna⟩
            obtain ⟨i, hi, rfl⟩ := List.getElem_of_mem ha
            exact hna (HST.out.acts i hi hi))])
          have hLS := rows_lists (c := c) (Sl.own HST.out.own) HST.out.rows hbi
          rw [HST.out.eq, List.take_length] at hLS
          have HLS := Lib.hid hLS
          have hlen : rs.length = g.length := by
           have := congrArg List.length HST.out.eq
           rw [List.length_map, List.length_map, List.length_take, Nat.min_self] at this
           exact this
          have HFN : Hid (∃ A' c', Value.slice A rs.length c = .slice A' g.length c' ∧ Lists wi A' (g.map fun a => img n a l)) := Lib.hid ⟨A, c, by rw [hlen], hLS⟩
          clear hLS hlen HLS
          go_wp2
          go_ret2
          obtain ⟨A', c', h1, h2⟩ := HFN.out
          exact ⟨hbi, .inr ⟨HER.out, A', c', by rw [← h1]; rfl, h2⟩⟩
end Go.Proofs.Tg.Rf
end
