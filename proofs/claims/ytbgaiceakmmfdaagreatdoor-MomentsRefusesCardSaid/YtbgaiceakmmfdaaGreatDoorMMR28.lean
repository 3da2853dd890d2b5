/- Parts of the proof: JD3, JD4, JE1. -/
import Derived.Test.YtbgaiceakmmfdaaGreatDoorMMR0
import Derived.Test.YtbgaiceakmmfdaaGreatDoorMMR24
import Derived.Test.YtbgaiceakmmfdaaGreatDoorMMR25
import Derived.Test.YtbgaiceakmmfdaaGreatDoorMMR27
set_option maxHeartbeats 64000000
set_option maxRecDepth 100000
namespace Go.Proofs.Tg.Iw
section
open Go.RowKit Go.Bw Go.Gr Go.Proofs.Tg Go.Rq
theorem retr_zero {w V : World} (hb : Below w.heap.size w V) : RetR 0 w (.returned (.agg #[.bool false, .slice none 0 0, .bool false, .slice none 0 0])) V := by
 have e1 : (0 : Rat).num = 0 := rfl
 have e2 : (0 : Rat).den = 1 := rfl
 refine ⟨none, 0, none, 0, ?_, ⟨?_, ?_⟩, hb⟩
 ·unfold rval
  rw [e1, e2, dnz_one, Int.natAbs_zero, dg_zero]
  rfl
 ·rw [e1]; exact NW.zero _ _ _
 ·rw [e2, dnz_one]; exact NW.zero _ _ _
theorem rmul_zero (p q : Rat) (N1 D1 N2 D2 : Option Addr) (c1 d1 c2 d2 : Nat) (w : World) (h : p.num = 0 ∨ q.num = 0) :
    Calls Tryz.prog 28 #[rval p N1 c1 D1 d1, rval q N2 c2 D2 d2] w (RetR 0 w) := by
  unfold rval; obtain ⟨s1, hs1⟩ := eqx (decide (p.num < 0)); obtain ⟨s2, hs2⟩ := eqx (decide (q.num < 0)); obtain ⟨l1, hl1⟩ := eqx ((dg p.num.natAbs).length); obtain ⟨l2, hl2⟩ := eqx ((dg q.num.natAbs).length); generalize (dg (dnz p.den)).length = k1; generalize (dg (dnz q.den)).length = k2; rw [hs1, hs2, hl1, hl2]
  have hl : l1 = 0 ∨ (l1 ≠ 0 ∧ l2 = 0) := by
   have a1 : p.num = 0 → l1 = 0 := fun e => by rw [← hl1, e, Int.natAbs_zero, dg_zero]; rfl
   have a2 : q.num = 0 → l2 = 0 := fun e => by rw [← hl2, e, Int.natAbs_zero, dg_zero]; rfl
   rcases h with h | h
   ·exact .inl (a1 h)
   ·by_cases h0 : l1 = 0
    ·exact .inl h0
    ·exact .inr ⟨h0, a2 h⟩
  clear h hs1 hs2 hl1 hl2; obtain ⟨W, hW⟩ := eqx (((w.alloc (.cells #[.bool s1, .slice N1 l1 c1, .bool false, .slice D1 k1 d1] 70)).alloc (.cells #[.bool s2, .slice N2 l2 c2, .bool false, .slice D2 k2 d2] 70)).alloc (.cells #[.bool false, .slice none 0 0, .bool false, .slice none 0 0] 70))
  have B0 : Blk W w.heap.size 70 #[.bool s1, .slice N1 l1 c1, .bool false, .slice D1 k1 d1] := by rw [← hW]; exact ((Blk.new _ _ _).alloc _).alloc _
  have B1 : Blk W (w.heap.size + 1) 70 #[.bool s2, .slice N2 l2 c2, .bool false, .slice D2 k2 d2] := by
   rw [← hW]; have := (Blk.new (w.alloc (.cells #[.bool s1, .slice N1 l1 c1, .bool false, .slice D1 k1 d1] 70)) 70 #[.bool s2, .slice N2 l2 c2, .bool false, .slice D2 k2 d2]).alloc (.cells #[.bool false, .slice none 0 0, .bool false, .slice none 0 0] 70); simpa using this
  have B2 : Blk W (w.heap.size + 1 + 1) 70 #[.bool false, .slice none 0 0, .bool false, .slice none 0 0] := by
   rw [← hW]; have := Blk.new ((w.alloc (.cells #[.bool s1, .slice N1 l1 c1, .bool false, .slice D1 k1 d1] 70)).alloc (.cells #[.bool s2, .slice N2 l2 c2, .bool false, .slice D2 k2 d2] 70)) 70 #[.bool false, .slice none 0 0, .bool false, .slice none 0 0]; simpa using this
  have hbW : Below w.heap.size w W := by rw [← hW]; exact ((bal).alloc (by simp) _).alloc (by simp; omega) _
  have HB0 := zh B0; have HB1 := zh B1; have HB2 := zh B2; have HWW := zh hW; have HBW := zh hbW; have HZ : Hid (∀ V x A n c, Calls Tryz.prog 45 #[.agg #[.bool x, .slice A n c]] V fun e w' => e = .returned (.bool (decide (n = 0))) ∧ Below V.heap.size V w') := zh (fun V x A n c => iszero_any x A n c V)
  have HEND : Hid (∀ V, Below W.heap.size W V → RetR 0 w (.returned (.agg #[.bool false, .slice none 0 0, .bool false, .slice none 0 0])) ((((V.setCell ⟨w.heap.size + 1 + 1, 0, none⟩ (.bool false)).setCell ⟨w.heap.size + 1 + 1, 1, none⟩ (.slice none 0 0)).setCell ⟨w.heap.size + 1 + 1, 2, none⟩ (.bool false)).setCell ⟨w.heap.size + 1 + 1, 3, none⟩ (.slice none 0 0))) := zh (fun V hV =>
   retr_zero (below_far (below_far (below_far (below_far (below_all hbW hV) (by omega) _ _) (by omega) _ _) (by omega) _ _) (by omega) _ _))
  obtain ⟨Q, hQ⟩ := eqx (RetR 0 w); rw [hQ] at HEND ⊢; obtain ⟨x0, x1, x2, x3, _, _, _, _⟩ := B0.four; obtain ⟨y0, y1, y2, y3, _, _, _, _⟩ := B1.four; have hbe : Below W.heap.size W W := Below.refl _ _; clear hQ hW hbW B0 B1 B2
  rcases hl with h0 | ⟨h0, h1⟩
  ·subst h0
   have d1 : decide ((0 : Nat) = 0) = true := by decide
   go_enter Tryz.func28, Tryz.ntmps28; go_upto_region 1 with (fail); rw [HWW.out]
   go_wp2_with (go_at_call 45; refine (HZ.out _ _ _ _ _).mono ?_; rintro e wA ⟨rfl, hb⟩; have hbe := below_all hbe hb; obtain ⟨x0, x1, x2, x3, _, _, _, _⟩ := (HB0.out.keep hbe HB0.out.lt).four; obtain ⟨y0, y1, y2, y3, _, _, _, _⟩ := (HB1.out.keep hbe HB1.out.lt).four; have Y2 := HB2.out.keep hbe HB2.out.lt; have H9 := zh (HEND.out wA hbe); obtain ⟨r0, r1, r2, r3, r4, r5, r6, r7⟩ := Y2.four; clear hb)
   exact bodyPost_ret (v := .agg #[.bool false, .slice none 0 0, .bool false, .slice none 0 0]) (by simp [results, Tryz.results28, go_sem, r0, r1, r2, r3]) rfl H9.out
  ·subst h1; have d1 : decide (l1 = 0) = false := dF h0
   have d2 : decide ((0 : Nat) = 0) = true := by decide
   go_enter Tryz.func28, Tryz.ntmps28; go_upto_region 1 with (fail); rw [HWW.out]
   go_wp2_with (go_at_call 45; refine (HZ.out _ _ _ _ _).mono ?_; rintro e wA ⟨rfl, hb⟩; have hbe := below_all hbe hb; obtain ⟨x0, x1, x2, x3, _, _, _, _⟩ := (HB0.out.keep hbe HB0.out.lt).four; obtain ⟨y0, y1, y2, y3, _, _, _, _⟩ := (HB1.out.keep hbe HB1.out.lt).four; have Y2 := HB2.out.keep hbe HB2.out.lt; have H9 := zh (HEND.out wA hbe); obtain ⟨r0, r1, r2, r3, r4, r5, r6, r7⟩ := Y2.four; clear hb)
   exact bodyPost_ret (v := .agg #[.bool false, .slice none 0 0, .bool false, .slice none 0 0]) (by simp [results, Tryz.results28, go_sem, r0, r1, r2, r3]) rfl H9.out
theorem rmul_whole (p q : Rat) (N1 D1 N2 D2 : Option Addr) (c1 d1 c2 d2 : Nat) (w : World) (h1 : RNum w p N1 c1 D1 d1) (h2 : RNum w q N2 c2 D2 d2) (hp : p.num ≠ 0) (hq : q.num ≠ 0) (e1 : p.den = 1) (e2 : q.den = 1)
    (bn1 : (dg p.num.natAbs).length ≤ 400000) (bn2 : (dg q.num.natAbs).length ≤ 400000) (hs : (dg p.num.natAbs).length < 40 ∨ (dg q.num.natAbs).length < 40) :
    Calls Tryz.prog 28 #[rval p N1 c1 D1 d1, rval q N2 c2 D2 d2] w (RetR (p * q) w) := by
  obtain ⟨m1, m2⟩ := mul_parts p q; rw [e1, e2, Nat.gcd_one_right, Nat.gcd_one_right] at m1 m2; rw [show p.num.tdiv ((1 : Nat) : Int) = p.num by simp, show q.num.tdiv ((1 : Nat) : Int) = q.num by simp] at m1
  have m3 : (p * q).den = 1 := by rw [m2]
  unfold rval; rw [e1, e2, dnz_one, dg_zero]; obtain ⟨s1, hs1⟩ := eqx (decide (p.num < 0)); obtain ⟨s2, hs2⟩ := eqx (decide (q.num < 0)); obtain ⟨l1, hl1⟩ := eqx ((dg p.num.natAbs).length); obtain ⟨l2, hl2⟩ := eqx ((dg q.num.natAbs).length); rw [hs1, hs2, hl1, hl2]
  show Calls _ _ #[.agg #[.bool s1, .slice N1 l1 c1, .bool false, .slice D1 0 d1], .agg #[.bool s2, .slice N2 l2 c2, .bool false, .slice D2 0 d2]] _ _
  have dn1 : decide (l1 = 0) = false := dF (by rw [← hl1]; have := (dg_len_pos (u := p.num.natAbs)).2 (by omega); omega); have dn2 : decide (l2 = 0) = false := dF (by rw [← hl2]; have := (dg_len_pos (u := q.num.natAbs)).2 (by omega); omega)
  have dz : decide ((0 : Nat) = 0) = true := by decide
  obtain ⟨W, hW⟩ := eqx (((w.alloc (.cells #[.bool s1, .slice N1 l1 c1, .bool false, .slice D1 0 d1] 70)).alloc (.cells #[.bool s2, .slice N2 l2 c2, .bool false, .slice D2 0 d2] 70)).alloc (.cells #[.bool false, .slice none 0 0, .bool false, .slice none 0 0] 70))
  have B0 : Blk W w.heap.size 70 #[.bool s1, .slice N1 l1 c1, .bool false, .slice D1 0 d1] := by rw [← hW]; exact ((Blk.new _ _ _).alloc _).alloc _
  have B1 : Blk W (w.heap.size + 1) 70 #[.bool s2, .slice N2 l2 c2, .bool false, .slice D2 0 d2] := by
   rw [← hW]; have := (Blk.new (w.alloc (.cells #[.bool s1, .slice N1 l1 c1, .bool false, .slice D1 0 d1] 70)) 70 #[.bool s2, .slice N2 l2 c2, .bool false, .slice D2 0 d2]).alloc (.cells #[.bool false, .slice none 0 0, .bool false, .slice none 0 0] 70); simpa using this
  have B2 : Blk W (w.heap.size + 1 + 1) 70 #[.bool false, .slice none 0 0, .bool false, .slice none 0 0] := by
   rw [← hW]; have := Blk.new ((w.alloc (.cells #[.bool s1, .slice N1 l1 c1, .bool false, .slice D1 0 d1] 70)).alloc (.cells #[.bool s2, .slice N2 l2 c2, .bool false, .slice D2 0 d2] 70)) 70 #[.bool false, .slice none 0 0, .bool false, .slice none 0 0]; simpa using this
  have hbW : Below w.heap.size w W := by rw [← hW]; exact ((bal).alloc (by simp) _).alloc (by simp; omega) _
  have HB0 := zh B0; have HB1 := zh B1; have HB2 := zh B2; have HWW := zh hW; have H1 := zh (h1.keep hbW); have H2 := zh (h2.keep hbW); have HZ : Hid (∀ V x A n c, Calls Tryz.prog 45 #[.agg #[.bool x, .slice A n c]] V fun e w' => e = .returned (.bool (decide (n = 0))) ∧ Below V.heap.size V w') := zh (fun V x A n c => iszero_any x A n c V); obtain ⟨sr, hsr⟩ := eqx (decide ((p * q).num < 0)); obtain ⟨lr, hlr⟩ := eqx ((dg (p * q).num.natAbs).length)
  have HM : Hid (∀ V, Below W.heap.size W V → Calls Tryz.prog 46 #[.agg #[.bool s1, .slice N1 l1 c1], .agg #[.bool s2, .slice N2 l2 c2]] V fun e w' => ∃ R c, e = .returned (.agg #[.bool sr, .slice R lr c]) ∧ NW w' R c (p * q).num.natAbs ∧ Below V.heap.size V w') := zh (fun V hV => by
   have := imul_any p.num q.num N1 N2 c1 c2 V (H1.out.num.keep hV) (H2.out.num.keep hV) bn1 bn2 hs; rw [← m1] at this; unfold RetZ at this; rw [hs1, hs2, hl1, hl2, hsr, hlr] at this
   exact this)
  obtain ⟨Q, hQ⟩ := eqx (RetR (p * q) w)
  have HFIN : Hid (∀ V R c, Below W.heap.size W V → NW V R c (p * q).num.natAbs → Q (.returned (.agg #[.bool sr, .slice R lr c, .bool false, .slice none 0 0])) ((((V.setCell ⟨w.heap.size + 1 + 1, 0, none⟩ (.bool sr)).setCell ⟨w.heap.size + 1 + 1, 1, none⟩ (.slice R lr c)).setCell ⟨w.heap.size + 1 + 1, 2, none⟩ (.bool false)).setCell ⟨w.heap.size + 1 + 1, 3, none⟩ (.slice none 0 0))) := zh (fun V R c hV hR => by
   have Y := HB2.out.keep hV HB2.out.lt; rw [← hQ]; refine ⟨R, c, none, 0, ?_, ⟨nw_four hR (hR.offB Y nil4) _ _ _ _, ?_⟩, ?_⟩
   ·unfold rval; rw [hsr, hlr, m3, dnz_one, dg_zero]; rfl
   ·rw [m3, dnz_one]; exact NW.zero _ _ _
   ·exact below_far (below_far (below_far (below_far (below_all hbW hV) (by omega) _ _) (by omega) _ _) (by omega) _ _) (by omega) _ _)
  rw [hQ]; obtain ⟨x0, x1, x2, x3, _, _, _, _⟩ := B0.four; obtain ⟨y0, y1, y2, y3, _, _, _, _⟩ := B1.four; have hbe : Below W.heap.size W W := Below.refl _ _; clear hQ hW hbW B0 B1 B2 h1 h2 hp hq bn1 bn2 hs m1 m2 m3 e1 e2 hs1 hs2 hl1 hl2 hsr hlr; go_enter Tryz.func28, Tryz.ntmps28; go_upto_region 1 with (fail); rw [HWW.out]
  go_wp2_with (first
    | (go_at_call 45; refine (HZ.out _ _ _ _ _).mono ?_; rintro e wA ⟨rfl, hb⟩; have hbe := below_all hbe hb; obtain ⟨x0, x1, x2, x3, _, _, _, _⟩ := (HB0.out.keep hbe HB0.out.lt).four; obtain ⟨y0, y1, y2, y3, _, _, _, _⟩ := (HB1.out.keep hbe HB1.out.lt).four; clear hb)
    | (go_at_call 46; refine (HM.out _ hbe).mono ?_; rintro e wB ⟨R, c, rfl, hR, hb⟩; have hbe := below_all hbe hb; have H9 := zh (HFIN.out wB R c hbe hR); obtain ⟨r0, r1, r2, r3, r4, r5, r6, r7⟩ := (HB2.out.keep hbe HB2.out.lt).four; clear hb hR))
  exact bodyPost_ret (v := .agg #[.bool sr, .slice R lr c, .bool false, .slice none 0 0]) (by simp [results, Tryz.results28, go_sem, r0, r1, r2, r3]) rfl H9.out
theorem rmul_any (p q : Rat) (N1 D1 N2 D2 : Option Addr) (c1 d1 c2 d2 : Nat) (w : World) (h1 : RNum w p N1 c1 D1 d1) (h2 : RNum w q N2 c2 D2 d2)
    (bn1 : (dg p.num.natAbs).length < 40) (bd1 : (dg p.den).length < 40) (bn2 : (dg q.num.natAbs).length < 40) (bd2 : (dg q.den).length < 40) (hT : Tab w) :
    Calls Tryz.prog 28 #[rval p N1 c1 D1 d1, rval q N2 c2 D2 d2] w (RetR (p * q) w) := by
  by_cases hp : p.num = 0
  ·have e : p * q = 0 := by rw [Rat.num_eq_zero.1 hp, Rat.zero_mul]
   rw [e]; exact rmul_zero p q N1 D1 N2 D2 c1 d1 c2 d2 w (.inl hp)
  by_cases hq : q.num = 0
  ·have e : p * q = 0 := by rw [Rat.num_eq_zero.1 hq, Rat.mul_zero]
   rw [e]; exact rmul_zero p q N1 D1 N2 D2 c1 d1 c2 d2 w (.inr hq)
  by_cases hw : p.den = 1 ∧ q.den = 1
  ·exact rmul_whole p q N1 D1 N2 D2 c1 d1 c2 d2 w h1 h2 hp hq hw.1 hw.2 (by omega) (by omega) (.inl bn1)
  ·exact rmul_gen p q N1 D1 N2 D2 c1 d1 c2 d2 w h1 h2 hp hq hw bn1 bd1 bn2 bd2 hT
theorem radd_both (p q : Rat) (N1 D1 N2 D2 : Option Addr) (c1 d1 c2 d2 : Nat) (w : World) (h1 : RNum w p N1 c1 D1 d1) (h2 : RNum w q N2 c2 D2 d2) (e1 : p.den = 1) (e2 : q.den = 1) (b1 : (dg p.num.natAbs).length ≤ 1000) (b2 : (dg q.num.natAbs).length ≤ 1000) :
    Calls Tryz.prog 30 #[rval p N1 c1 D1 d1, rval q N2 c2 D2 d2] w (RetR (p + q) w) := by
  obtain ⟨m1, m2⟩ := add_parts p q 1 (by rw [e1]; exact Nat.gcd_one_left _) (p.num + q.num) (by rw [e1, e2]; simp); rw [e1, e2, Nat.gcd_one_right] at m2; rw [Nat.gcd_one_right, show (p.num + q.num).tdiv ((1 : Nat) : Int) = p.num + q.num by simp] at m1
  replace m2 : (p + q).den = 1 := by rw [m2]
  unfold rval; obtain ⟨s1, hs1⟩ := eqx (decide (p.num < 0)); obtain ⟨s2, hs2⟩ := eqx (decide (q.num < 0)); obtain ⟨l1, hl1⟩ := eqx ((dg p.num.natAbs).length); obtain ⟨l2, hl2⟩ := eqx ((dg q.num.natAbs).length); obtain ⟨k1, hk1⟩ := eqx ((dg (dnz p.den)).length); obtain ⟨k2, hk2⟩ := eqx ((dg (dnz q.den)).length); rw [hs1, hs2, hl1, hl2, hk1, hk2]
  have hk1z : k1 = 0 := by rw [← hk1, e1, dnz_one, dg_zero]; rfl
  have hk2z : k2 = 0 := by rw [← hk2, e2, dnz_one, dg_zero]; rfl
  clear hk1 hk2; subst hk1z hk2z
  have dz : decide ((0 : Nat) = 0) = true := by decide
  obtain ⟨W, hW⟩ := eqx (((w.alloc (.cells #[.bool s1, .slice N1 l1 c1, .bool false, .slice D1 0 d1] 70)).alloc (.cells #[.bool s2, .slice N2 l2 c2, .bool false, .slice D2 0 d2] 70)).alloc (.cells #[.bool false, .slice none 0 0, .bool false, .slice none 0 0] 70))
  have B0 : Blk W w.heap.size 70 #[.bool s1, .slice N1 l1 c1, .bool false, .slice D1 0 d1] := by rw [← hW]; exact ((Blk.new _ _ _).alloc _).alloc _
  have B1 : Blk W (w.heap.size + 1) 70 #[.bool s2, .slice N2 l2 c2, .bool false, .slice D2 0 d2] := by
   rw [← hW]; have := (Blk.new (w.alloc (.cells #[.bool s1, .slice N1 l1 c1, .bool false, .slice D1 0 d1] 70)) 70 #[.bool s2, .slice N2 l2 c2, .bool false, .slice D2 0 d2]).alloc (.cells #[.bool false, .slice none 0 0, .bool false, .slice none 0 0] 70); simpa using this
  have B2 : Blk W (w.heap.size + 1 + 1) 70 #[.bool false, .slice none 0 0, .bool false, .slice none 0 0] := by
   rw [← hW]; have := Blk.new ((w.alloc (.cells #[.bool s1, .slice N1 l1 c1, .bool false, .slice D1 0 d1] 70)).alloc (.cells #[.bool s2, .slice N2 l2 c2, .bool false, .slice D2 0 d2] 70)) 70 #[.bool false, .slice none 0 0, .bool false, .slice none 0 0]; simpa using this
  have hbW : Below w.heap.size w W := by rw [← hW]; exact ((bal).alloc (by simp) _).alloc (by simp; omega) _
  have hsW : w.heap.size + 3 ≤ W.heap.size := by rw [← hW]; simp
  have HB0 := zh B0; have HB1 := zh B1; have HB2 := zh B2; have HWW := zh hW; have HBW := zh hbW; have H1 := zh (h1.keep hbW); have H2 := zh (h2.keep hbW); have HZ : Hid (∀ V x A n c, Calls Tryz.prog 45 #[.agg #[.bool x, .slice A n c]] V fun e w' => e = .returned (.bool (decide (n = 0))) ∧ Below V.heap.size V w') := zh (fun V x A n c => iszero_any x A n c V); obtain ⟨sr, hsr⟩ := eqx (decide ((p + q).num < 0)); obtain ⟨lr, hlr⟩ := eqx ((dg (p + q).num.natAbs).length); obtain ⟨Q, hQ⟩ := eqx (RetR (p + q) w)
  have HA : Hid (∀ V, Below W.heap.size W V → Calls Tryz.prog 54 #[.agg #[.bool s1, .slice N1 l1 c1], .agg #[.bool s2, .slice N2 l2 c2]] V fun e w' => ∃ R c, e = .returned (.agg #[.bool sr, .slice R lr c]) ∧ NW w' R c (p + q).num.natAbs ∧ Below V.heap.size V w') := zh (fun V hV => by
   have := iadd_any p.num q.num N1 N2 c1 c2 V (H1.out.num.keep hV) (H2.out.num.keep hV) (by omega) (by omega) (Nat.le_trans (len_add b1 b2) (by omega)); rw [← m1] at this; unfold RetZ at this; rw [hs1, hs2, hl1, hl2, hsr, hlr] at this
   exact this)
  have HFIN : Hid (∀ V R c, Below W.heap.size W V → NW V R c (p + q).num.natAbs → Q (.returned (.agg #[.bool sr, .slice R lr c, .bool false, .slice none 0 0])) ((((V.setCell ⟨w.heap.size + 1 + 1, 0, none⟩ (.bool sr)).setCell ⟨w.heap.size + 1 + 1, 1, none⟩ (.slice R lr c)).setCell ⟨w.heap.size + 1 + 1, 2, none⟩ (.bool false)).setCell ⟨w.heap.size + 1 + 1, 3, none⟩ (.slice none 0 0))) := zh (fun V R c hV hR => by
   have Y := HB2.out.keep hV HB2.out.lt; rw [← hQ]; refine ⟨R, c, _, _, by unfold rval; rw [hsr, hlr, m2, dnz_one, dg_zero, List.length_nil], ⟨nw_four hR (hR.offB Y nil4) _ _ _ _, ?_⟩, ?_⟩
   ·rw [m2]; rw [dnz_one]; exact NW.zero _ _ _
   ·exact below_far (below_far (below_far (below_far (below_all hbW hV) (by omega) _ _) (by omega) _ _) (by omega) _ _) (by omega) _ _)
  rw [hQ]; obtain ⟨x0, x1, x2, x3, _, _, _, _⟩ := B0.four; obtain ⟨y0, y1, y2, y3, _, _, _, _⟩ := B1.four; have hbe : Below W.heap.size W W := Below.refl _ _; clear hQ hW hbW B0 B1 B2 h1 h2 e1 e2 b1 b2 m1 m2 hs1 hs2 hl1 hl2 hsr hlr; go_enter Tryz.func30, Tryz.ntmps30; go_upto_region 1 with (fail); rw [HWW.out]
  go_wp2_with (first
    | (go_at_call 45; refine (HZ.out _ _ _ _ _).mono ?_; rintro e wA ⟨rfl, hb⟩; have hbe := below_all hbe hb; obtain ⟨x0, x1, x2, x3, _, _, _, _⟩ := (HB0.out.keep hbe HB0.out.lt).four; obtain ⟨y0, y1, y2, y3, _, _, _, _⟩ := (HB1.out.keep hbe HB1.out.lt).four; clear hb)
    | (go_at_call 54; refine (HA.out _ hbe).mono ?_; rintro e wB ⟨R, c, rfl, hR, hb⟩; have hbe := below_all hbe hb; have HEND := zh (HFIN.out wB R c hbe hR); obtain ⟨t0, t1, t2, t3, r4, r5, r6, r7⟩ := (HB2.out.keep hbe HB2.out.lt).four; clear hb hR))
  exact bodyPost_ret (v := .agg #[.bool sr, .slice R lr c, .bool false, .slice none 0 0]) (by simp [results, Tryz.results30, go_sem, t0, t1, t2, t3]) rfl HEND.out
theorem radd_first (p q : Rat) (N1 D1 N2 D2 : Option Addr) (c1 d1 c2 d2 : Nat) (w : World) (h1 : RNum w p N1 c1 D1 d1) (h2 : RNum w q N2 c2 D2 d2) (e1 : p.den = 1) (e2 : q.den ≠ 1) (b1 : (dg p.num.natAbs).length ≤ 1000) (b2 : (dg q.num.natAbs).length ≤ 1000) (b3 : (dg q.den).length ≤ 1000) (hs : (dg p.num.natAbs).length < 40 ∨ (dg q.den).length < 40) :
    Calls Tryz.prog 30 #[rval p N1 c1 D1 d1, rval q N2 c2 D2 d2] w (RetR (p + q) w) := by
  obtain ⟨m1, m2⟩ := add_parts p q 1 (by rw [e1]; exact Nat.gcd_one_left _) (p.num * (q.den : Int) + q.num) (by rw [e1]; simp); rw [e1, Nat.gcd_one_right, Nat.div_one, Nat.div_one, Nat.one_mul] at m2; rw [Nat.gcd_one_right, show (p.num * (q.den : Int) + q.num).tdiv ((1 : Nat) : Int) = p.num * (q.den : Int) + q.num by simp] at m1; unfold rval; obtain ⟨s1, hs1⟩ := eqx (decide (p.num < 0)); obtain ⟨s2, hs2⟩ := eqx (decide (q.num < 0)); obtain ⟨l1, hl1⟩ := eqx ((dg p.num.natAbs).length); obtain ⟨l2, hl2⟩ := eqx ((dg q.num.natAbs).length); obtain ⟨k1, hk1⟩ := eqx ((dg (dnz p.den)).length); obtain ⟨k2, hk2⟩ := eqx ((dg (dnz q.den)).length); rw [hs1, hs2, hl1, hl2, hk1, hk2]; have dd1 : decide (k1 = 0) = true := dT (by rw [← hk1, e1, dnz_one, dg_zero]; rfl); have dd2 : decide (k2 = 0) = false := dF (by rw [← hk2, dnz_pos e2]; have := (dg_len_pos (u := q.den)).2 q.den_nz; omega)
  have hkd : (dg q.den).length = k2 := by rw [← hk2, dnz_pos e2]
  have hrd : (dg (dnz (p + q).den)).length = k2 := by rw [m2, dnz_pos e2]; exact hkd
  obtain ⟨W, hW⟩ := eqx (((w.alloc (.cells #[.bool s1, .slice N1 l1 c1, .bool false, .slice D1 k1 d1] 70)).alloc (.cells #[.bool s2, .slice N2 l2 c2, .bool false, .slice D2 k2 d2] 70)).alloc (.cells #[.bool false, .slice none 0 0, .bool false, .slice none 0 0] 70))
  have B0 : Blk W w.heap.size 70 #[.bool s1, .slice N1 l1 c1, .bool false, .slice D1 k1 d1] := by rw [← hW]; exact ((Blk.new _ _ _).alloc _).alloc _
  have B1 : Blk W (w.heap.size + 1) 70 #[.bool s2, .slice N2 l2 c2, .bool false, .slice D2 k2 d2] := by
   rw [← hW]; have := (Blk.new (w.alloc (.cells #[.bool s1, .slice N1 l1 c1, .bool false, .slice D1 k1 d1] 70)) 70 #[.bool s2, .slice N2 l2 c2, .bool false, .slice D2 k2 d2]).alloc (.cells #[.bool false, .slice none 0 0, .bool false, .slice none 0 0] 70); simpa using this
  have B2 : Blk W (w.heap.size + 1 + 1) 70 #[.bool false, .slice none 0 0, .bool false, .slice none 0 0] := by
   rw [← hW]; have := Blk.new ((w.alloc (.cells #[.bool s1, .slice N1 l1 c1, .bool false, .slice D1 k1 d1] 70)).alloc (.cells #[.bool s2, .slice N2 l2 c2, .bool false, .slice D2 k2 d2] 70)) 70 #[.bool false, .slice none 0 0, .bool false, .slice none 0 0]; simpa using this
  have hbW : Below w.heap.size w W := by rw [← hW]; exact ((bal).alloc (by simp) _).alloc (by simp; omega) _
  have hsW : w.heap.size + 3 ≤ W.heap.size := by rw [← hW]; simp
  have HB0 := zh B0; have HB1 := zh B1; have HB2 := zh B2; have HWW := zh hW; have HBW := zh hbW; have H1 := zh (h1.keep hbW); have H2 := zh (h2.keep hbW); have HZ : Hid (∀ V x A n c, Calls Tryz.prog 45 #[.agg #[.bool x, .slice A n c]] V fun e w' => e = .returned (.bool (decide (n = 0))) ∧ Below V.heap.size V w') := zh (fun V x A n c => iszero_any x A n c V); obtain ⟨sr, hsr⟩ := eqx (decide ((p + q).num < 0)); obtain ⟨lr, hlr⟩ := eqx ((dg (p + q).num.natAbs).length); obtain ⟨Q, hQ⟩ := eqx (RetR (p + q) w); have hO := H2.out.den; rw [dnz_pos e2] at hO; have HO := zh hO; obtain ⟨z, hz⟩ := eqx (p.num * (q.den : Int)); obtain ⟨sz, hsz⟩ := eqx (decide (z < 0)); obtain ⟨lz, hlz⟩ := eqx ((dg z.natAbs).length)
  have hzl : (dg z.natAbs).length ≤ 2000 := by rw [← hz, Int.natAbs_mul, Int.natAbs_natCast]; exact len_mul (by omega) b3
  rw [hz] at m1
  have HM : Hid (∀ V, Below W.heap.size W V → Calls Tryz.prog 46 #[.agg #[.bool s1, .slice N1 l1 c1], .agg #[.bool false, .slice D2 k2 d2]] V fun e w' => ∃ R c, e = .returned (.agg #[.bool sz, .slice R lz c]) ∧ NW w' R c z.natAbs ∧ Below V.heap.size V w') := zh (fun V hV => by
   have := imul_any p.num (q.den : Int) N1 D2 c1 d2 V (H1.out.num.keep hV) (by rw [Int.natAbs_natCast]; exact HO.out.keep hV) (by omega) (by rw [Int.natAbs_natCast]; omega) (by rw [Int.natAbs_natCast]; exact hs); rw [hz] at this; unfold RetZ at this; rw [Int.natAbs_natCast, dF (show ¬ (q.den : Int) < 0 by omega), hs1, hl1, hkd, hsz, hlz] at this
   exact this)
  have HA : Hid (∀ V, Below W.heap.size W V → ∀ R c, NW V R c z.natAbs → Calls Tryz.prog 54 #[.agg #[.bool sz, .slice R lz c], .agg #[.bool s2, .slice N2 l2 c2]] V fun e w' => ∃ R c, e = .returned (.agg #[.bool sr, .slice R lr c]) ∧ NW w' R c (p + q).num.natAbs ∧ Below V.heap.size V w') := zh (fun V hV R c hR => by
   have := iadd_any z q.num R N2 c c2 V hR (H2.out.num.keep hV) (by omega) (by omega) (Nat.le_trans (len_add hzl (show (dg q.num.natAbs).length ≤ 2000 by omega)) (by omega)); rw [← m1] at this; unfold RetZ at this; rw [hsz, hlz, hs2, hl2, hsr, hlr] at this
   exact this)
  have HFIN : Hid (∀ V R c, Below W.heap.size W V → NW V R c (p + q).num.natAbs → Q (.returned (.agg #[.bool sr, .slice R lr c, .bool false, .slice D2 k2 d2])) ((((V.setCell ⟨w.heap.size + 1 + 1, 0, none⟩ (.bool sr)).setCell ⟨w.heap.size + 1 + 1, 1, none⟩ (.slice R lr c)).setCell ⟨w.heap.size + 1 + 1, 2, none⟩ (.bool false)).setCell ⟨w.heap.size + 1 + 1, 3, none⟩ (.slice D2 k2 d2))) := zh (fun V R c hV hR => by
   have Y := HB2.out.keep hV HB2.out.lt; have hD := HO.out.keep hV; rw [← hQ]; refine ⟨R, c, D2, d2, by unfold rval; rw [hsr, hlr, hrd], ⟨nw_four hR (hR.offB Y nil4) _ _ _ _, ?_⟩, ?_⟩
   ·rw [m2, dnz_pos e2]; exact nw_four hD (hD.offB Y nil4) _ _ _ _
   ·exact below_far (below_far (below_far (below_far (below_all hbW hV) (by omega) _ _) (by omega) _ _) (by omega) _ _) (by omega) _ _)
  rw [hQ]; obtain ⟨x0, x1, x2, x3, _, _, _, _⟩ := B0.four; obtain ⟨y0, y1, y2, y3, _, _, _, _⟩ := B1.four; have hbe : Below W.heap.size W W := Below.refl _ _; clear hQ hW hbW B0 B1 B2 h1 h2 e1 e2 b1 b2 b3 m1 m2 hs1 hs2 hl1 hl2 hk1 hk2 hsr hlr hO hz hsz hlz hzl hkd hrd hs; go_enter Tryz.func30, Tryz.ntmps30; go_upto_region 1 with (fail); rw [HWW.out]
  go_upto_region 4 with (go_at_call 45; refine (HZ.out _ _ _ _ _).mono ?_; rintro e wA ⟨rfl, hb⟩; have hbe := below_all hbe hb; obtain ⟨x0, x1, x2, x3, _, _, _, _⟩ := (HB0.out.keep hbe HB0.out.lt).four; obtain ⟨y0, y1, y2, y3, _, _, _, _⟩ := (HB1.out.keep hbe HB1.out.lt).four; clear hb)
  have HBE := zh hbe; have HM1 : Hid (∀ V, Below wA.heap.size wA V → Calls Tryz.prog 46 #[.agg #[.bool s1, .slice N1 l1 c1], .agg #[.bool false, .slice D2 k2 d2]] V fun e w' => ∃ R c, e = .returned (.agg #[.bool sz, .slice R lz c]) ∧ NW w' R c z.natAbs ∧ Below V.heap.size V w') := zh (fun V hV => HM.out V (below_all HBE.out hV)); have HA1 : Hid (∀ V, Below wA.heap.size wA V → ∀ R c, NW V R c z.natAbs → Calls Tryz.prog 54 #[.agg #[.bool sz, .slice R lz c], .agg #[.bool s2, .slice N2 l2 c2]] V fun e w' => ∃ R c, e = .returned (.agg #[.bool sr, .slice R lr c]) ∧ NW w' R c (p + q).num.natAbs ∧ Below V.heap.size V w') := zh (fun V hV => HA.out V (below_all HBE.out hV)); have HR0 := zh (HB2.out.keep hbe HB2.out.lt); have hWC := hbe.size; clear HM HA HZ dd1 dd2 hbe
  have kc : ∀ V, Below wA.heap.size wA V → V.cell? ⟨w.heap.size, 0, none⟩ = some (.bool s1) ∧ V.cell? ⟨w.heap.size, 1, none⟩ = some (.slice N1 l1 c1) ∧ V.cell? ⟨w.heap.size + 1, 0, none⟩ = some (.bool s2) ∧ V.cell? ⟨w.heap.size + 1, 1, none⟩ = some (.slice N2 l2 c2) ∧ V.cell? ⟨w.heap.size + 1, 2, none⟩ = some (.bool false) ∧ V.cell? ⟨w.heap.size + 1, 3, none⟩ = some (.slice D2 k2 d2) := fun V h => ⟨keep_cell h x0, keep_cell h x1, keep_cell h y0, keep_cell h y1, keep_cell h y2, keep_cell h y3⟩
  have BZ : Below wA.heap.size wA wA.drew := brf.drew; refine wp_region_held_drew (S := (fun w' => w'.cell? ⟨w.heap.size, 0, none⟩ = some (.bool s1) ∧ w'.cell? ⟨w.heap.size, 1, none⟩ = some (.slice N1 l1 c1) ∧ w'.cell? ⟨w.heap.size + 1, 0, none⟩ = some (.bool s2) ∧ w'.cell? ⟨w.heap.size + 1, 1, none⟩ = some (.slice N2 l2 c2) ∧ w'.cell? ⟨w.heap.size + 1, 2, none⟩ = some (.bool false) ∧ w'.cell? ⟨w.heap.size + 1, 3, none⟩ = some (.slice D2 k2 d2))) (by kernel_rfl) (kc _ BZ) (fun hHeld => ?_); generalize wA.drew = Z at *; refine rz_get 0 29 (.pointer (some ⟨w.heap.size, 0, none⟩)) rfl rfl (by kernel_rfl) (by kernel_rfl) (by rfl) hHeld ?_ ?_
  ·(intro w hSw; (try dsimp only at hSw); go_simp; all_goals (try with_reducible rfl))
  (try simp only [put4]); refine rz_get 1 30 (.agg #[.bool s1, .slice N1 l1 c1]) rfl rfl (by kernel_rfl) (by kernel_rfl) (by rfl) hHeld ?_ ?_
  ·(intro w hSw; (try dsimp only at hSw); go_simp; all_goals (try with_reducible rfl))
  (try simp only [put4]); refine rz_get 2 31 (.pointer (some ⟨w.heap.size + 1, 2, none⟩)) rfl rfl (by kernel_rfl) (by kernel_rfl) (by rfl) hHeld ?_ ?_
  ·(intro w hSw; (try dsimp only at hSw); go_simp; all_goals (try with_reducible rfl))
  (try simp only [put4]); refine rz_get 3 32 (.agg #[.bool false, .slice D2 k2 d2]) rfl rfl (by kernel_rfl) (by kernel_rfl) (by rfl) hHeld ?_ ?_
  ·(intro w hSw; (try dsimp only at hSw); go_simp; all_goals (try with_reducible rfl))
  (try simp only [put4]); refine rz_get 5 34 (.pointer (some ⟨w.heap.size + 1, 0, none⟩)) rfl rfl (by kernel_rfl) (by kernel_rfl) (by rfl) hHeld ?_ ?_
  ·(intro w hSw; (try dsimp only at hSw); go_simp; all_goals (try with_reducible rfl))
  (try simp only [put4]); refine rz_get 6 35 (.agg #[.bool s2, .slice N2 l2 c2]) rfl rfl (by kernel_rfl) (by kernel_rfl) (by rfl) hHeld ?_ ?_
  ·(intro w hSw; (try dsimp only at hSw); go_simp; all_goals (try with_reducible rfl))
  (try simp only [put4]); refine rz_get 8 37 (.pointer (some ⟨w.heap.size + 1, 2, none⟩)) rfl rfl (by kernel_rfl) (by kernel_rfl) (by rfl) hHeld ?_ ?_
  ·(intro w hSw; (try dsimp only at hSw); go_simp; all_goals (try with_reducible rfl))
  (try simp only [put4]); refine rz_get 9 38 (.agg #[.bool false, .slice D2 k2 d2]) rfl rfl (by kernel_rfl) (by kernel_rfl) (by rfl) hHeld ?_ ?_
  ·(intro w hSw; (try dsimp only at hSw); go_simp; all_goals (try with_reducible rfl))
  (try simp only [put4]); refine wpAnyH_ready (rs := [4]) (by kernel_rfl) (by simp) ?_
  refine rz_one rfl fun K hK => ?_
  go_simp
  with_reducible refine Calls.mono (HM1.out _ BZ) ?_
  rintro e Z1 ⟨Rm, rm, rfl, nmx, hb⟩; have NM := zh nmx; have BZ1 := below_all BZ hb; (try go_simp); refine hK.out _ _ (kc _ BZ1) (fun hHeld => ?_); clear hK K hb nmx; (try simp only [put4]); obtain ⟨Zq, rfl⟩ : ∃ x, x = Z1 := ⟨_, rfl⟩; have BZq := BZ1; clear BZ1; rotate_left
  all_goals
    refine wpAnyH_ready (rs := [7]) (by kernel_rfl) (by simp) ?_
    refine rz_one rfl fun K hK => ?_
    go_simp
    with_reducible refine Calls.mono (HA1.out _ BZq _ _ NM.out) ?_
    rintro e Z2 ⟨Ra, ra, rfl, nax, hb⟩; have NM := zh (NM.out.keep hb); have NA := zh nax; have BZ2 := below_all BZq hb; (try go_simp); refine hK.out _ _ (kc _ BZ2) (fun hHeld => ?_); clear hK K hb nax; (try simp only [put4]); refine rz_get 10 39 (.agg #[.bool sr, .slice Ra lr ra, .bool false, .slice D2 k2 d2]) rfl rfl (by kernel_rfl) (by kernel_rfl) (by rfl) hHeld ?_ ?_
    ·(intro w hSw; (try dsimp only at hSw); go_simp; all_goals (try with_reducible rfl))
    (try simp only [put4]); refine wpAnyH_ready (rs := [11]) (by kernel_rfl) (by simp) ?_
    refine rz_one rfl fun K hK => ?_
    have YR := HR0.out.keep BZ2 HR0.out.lt; obtain ⟨t0, t1, t2, t3, f0, f1, f2, f3⟩ := YR.four; have HEND := zh (HFIN.out Z2 Ra ra (below_all HBE.out BZ2) NA.out); have YT := rz_four YR (.bool sr) (.slice Ra lr ra) (.bool false) (.slice D2 k2 d2); go_simp; refine hK.out _ _ ⟨rz_cell4 (keep_cell BZ2 x0) (by omega), rz_cell4 (keep_cell BZ2 x1) (by omega), rz_cell4 (keep_cell BZ2 y0) (by omega), rz_cell4 (keep_cell BZ2 y1) (by omega), rz_cell4 (keep_cell BZ2 y2) (by omega), rz_cell4 (keep_cell BZ2 y3) (by omega)⟩ (fun hHeld => ?_); clear hK K t0 f0 t1 f1 t2 f2 t3 f3; obtain ⟨t0, t1, t2, t3, f0, f1, f2, f3⟩ := YT.four; (try simp only [put4]); refine wpAnyH_done (by kernel_rfl) ?_ _; go_wp2; exact bodyPost_ret (v := .agg #[.bool sr, .slice Ra lr ra, .bool false, .slice D2 k2 d2]) (by simp [results, Tryz.results30, go_sem, t0, t1, t2, t3]) rfl HEND.out
theorem radd_second (p q : Rat) (N1 D1 N2 D2 : Option Addr) (c1 d1 c2 d2 : Nat) (w : World) (h1 : RNum w p N1 c1 D1 d1) (h2 : RNum w q N2 c2 D2 d2) (e1 : p.den ≠ 1) (e2 : q.den = 1) (b1 : (dg p.num.natAbs).length ≤ 1000) (b2 : (dg q.num.natAbs).length ≤ 1000) (b3 : (dg p.den).length ≤ 1000) (hs : (dg q.num.natAbs).length < 40 ∨ (dg p.den).length < 40) :
    Calls Tryz.prog 30 #[rval p N1 c1 D1 d1, rval q N2 c2 D2 d2] w (RetR (p + q) w) := by
  obtain ⟨m1, m2⟩ := add_parts p q 1 (by rw [e2]; exact Nat.gcd_one_right _) (q.num * (p.den : Int) + p.num) (by rw [e2]; simp; omega); rw [e2, Nat.gcd_one_right, Nat.div_one, Nat.div_one, Nat.mul_one] at m2; rw [Nat.gcd_one_right, show (q.num * (p.den : Int) + p.num).tdiv ((1 : Nat) : Int) = q.num * (p.den : Int) + p.num by simp] at m1; unfold rval; obtain ⟨s1, hs1⟩ := eqx (decide (p.num < 0)); obtain ⟨s2, hs2⟩ := eqx (decide (q.num < 0)); obtain ⟨l1, hl1⟩ := eqx ((dg p.num.natAbs).length); obtain ⟨l2, hl2⟩ := eqx ((dg q.num.natAbs).length); obtain ⟨k1, hk1⟩ := eqx ((dg (dnz p.den)).length); obtain ⟨k2, hk2⟩ := eqx ((dg (dnz q.den)).length); rw [hs1, hs2, hl1, hl2, hk1, hk2]; have dd1 : decide (k1 = 0) = false := dF (by rw [← hk1, dnz_pos e1]; have := (dg_len_pos (u := p.den)).2 p.den_nz; omega); have dd2 : decide (k2 = 0) = true := dT (by rw [← hk2, e2, dnz_one, dg_zero]; rfl)
  have hkd : (dg p.den).length = k1 := by rw [← hk1, dnz_pos e1]
  have hrd : (dg (dnz (p + q).den)).length = k1 := by rw [m2, dnz_pos e1]; exact hkd
  obtain ⟨W, hW⟩ := eqx (((w.alloc (.cells #[.bool s1, .slice N1 l1 c1, .bool false, .slice D1 k1 d1] 70)).alloc (.cells #[.bool s2, .slice N2 l2 c2, .bool false, .slice D2 k2 d2] 70)).alloc (.cells #[.bool false, .slice none 0 0, .bool false, .slice none 0 0] 70))
  have B0 : Blk W w.heap.size 70 #[.bool s1, .slice N1 l1 c1, .bool false, .slice D1 k1 d1] := by rw [← hW]; exact ((Blk.new _ _ _).alloc _).alloc _
  have B1 : Blk W (w.heap.size + 1) 70 #[.bool s2, .slice N2 l2 c2, .bool false, .slice D2 k2 d2] := by
   rw [← hW]; have := (Blk.new (w.alloc (.cells #[.bool s1, .slice N1 l1 c1, .bool false, .slice D1 k1 d1] 70)) 70 #[.bool s2, .slice N2 l2 c2, .bool false, .slice D2 k2 d2]).alloc (.cells #[.bool false, .slice none 0 0, .bool false, .slice none 0 0] 70); simpa using this
  have B2 : Blk W (w.heap.size + 1 + 1) 70 #[.bool false, .slice none 0 0, .bool false, .slice none 0 0] := by
   rw [← hW]; have := Blk.new ((w.alloc (.cells #[.bool s1, .slice N1 l1 c1, .bool false, .slice D1 k1 d1] 70)).alloc (.cells #[.bool s2, .slice N2 l2 c2, .bool false, .slice D2 k2 d2] 70)) 70 #[.bool false, .slice none 0 0, .bool false, .slice none 0 0]; simpa using this
  have hbW : Below w.heap.size w W := by rw [← hW]; exact ((bal).alloc (by simp) _).alloc (by simp; omega) _
  have hsW : w.heap.size + 3 ≤ W.heap.size := by rw [← hW]; simp
  have HB0 := zh B0; have HB1 := zh B1; have HB2 := zh B2; have HWW := zh hW; have HBW := zh hbW; have H1 := zh (h1.keep hbW); have H2 := zh (h2.keep hbW); have HZ : Hid (∀ V x A n c, Calls Tryz.prog 45 #[.agg #[.bool x, .slice A n c]] V fun e w' => e = .returned (.bool (decide (n = 0))) ∧ Below V.heap.size V w') := zh (fun V x A n c => iszero_any x A n c V); obtain ⟨sr, hsr⟩ := eqx (decide ((p + q).num < 0)); obtain ⟨lr, hlr⟩ := eqx ((dg (p + q).num.natAbs).length); obtain ⟨Q, hQ⟩ := eqx (RetR (p + q) w); have hO := H1.out.den; rw [dnz_pos e1] at hO; have HO := zh hO; obtain ⟨z, hz⟩ := eqx (q.num * (p.den : Int)); obtain ⟨sz, hsz⟩ := eqx (decide (z < 0)); obtain ⟨lz, hlz⟩ := eqx ((dg z.natAbs).length)
  have hzl : (dg z.natAbs).length ≤ 2000 := by rw [← hz, Int.natAbs_mul, Int.natAbs_natCast]; exact len_mul (by omega) b3
  rw [hz] at m1
  have HM : Hid (∀ V, Below W.heap.size W V → Calls Tryz.prog 46 #[.agg #[.bool s2, .slice N2 l2 c2], .agg #[.bool false, .slice D1 k1 d1]] V fun e w' => ∃ R c, e = .returned (.agg #[.bool sz, .slice R lz c]) ∧ NW w' R c z.natAbs ∧ Below V.heap.size V w') := zh (fun V hV => by
   have := imul_any q.num (p.den : Int) N2 D1 c2 d1 V (H2.out.num.keep hV) (by rw [Int.natAbs_natCast]; exact HO.out.keep hV) (by omega) (by rw [Int.natAbs_natCast]; omega) (by rw [Int.natAbs_natCast]; exact hs); rw [hz] at this; unfold RetZ at this; rw [Int.natAbs_natCast, dF (show ¬ (p.den : Int) < 0 by omega), hs2, hl2, hkd, hsz, hlz] at this
   exact this)
  have HA : Hid (∀ V, Below W.heap.size W V → ∀ R c, NW V R c z.natAbs → Calls Tryz.prog 54 #[.agg #[.bool sz, .slice R lz c], .agg #[.bool s1, .slice N1 l1 c1]] V fun e w' => ∃ R c, e = .returned (.agg #[.bool sr, .slice R lr c]) ∧ NW w' R c (p + q).num.natAbs ∧ Below V.heap.size V w') := zh (fun V hV R c hR => by
   have := iadd_any z p.num R N1 c c1 V hR (H1.out.num.keep hV) (by omega) (by omega) (Nat.le_trans (len_add hzl (show (dg p.num.natAbs).length ≤ 2000 by omega)) (by omega)); rw [← m1] at this; unfold RetZ at this; rw [hsz, hlz, hs1, hl1, hsr, hlr] at this
   exact this)
  have HFIN : Hid (∀ V R c, Below W.heap.size W V → NW V R c (p + q).num.natAbs → Q (.returned (.agg #[.bool sr, .slice R lr c, .bool false, .slice D1 k1 d1])) ((((V.setCell ⟨w.heap.size + 1 + 1, 0, none⟩ (.bool sr)).setCell ⟨w.heap.size + 1 + 1, 1, none⟩ (.slice R lr c)).setCell ⟨w.heap.size + 1 + 1, 2, none⟩ (.bool false)).setCell ⟨w.heap.size + 1 + 1, 3, none⟩ (.slice D1 k1 d1))) := zh (fun V R c hV hR => by
   have Y := HB2.out.keep hV HB2.out.lt; have hD := HO.out.keep hV; rw [← hQ]; refine ⟨R, c, D1, d1, by unfold rval; rw [hsr, hlr, hrd], ⟨nw_four hR (hR.offB Y nil4) _ _ _ _, ?_⟩, ?_⟩
   ·rw [m2, dnz_pos e1]; exact nw_four hD (hD.offB Y nil4) _ _ _ _
   ·exact below_far (below_far (below_far (below_far (below_all hbW hV) (by omega) _ _) (by omega) _ _) (by omega) _ _) (by omega) _ _)
  rw [hQ]; obtain ⟨x0, x1, x2, x3, _, _, _, _⟩ := B0.four; obtain ⟨y0, y1, y2, y3, _, _, _, _⟩ := B1.four; have hbe : Below W.heap.size W W := Below.refl _ _; clear hQ hW hbW B0 B1 B2 h1 h2 e1 e2 b1 b2 b3 m1 m2 hs1 hs2 hl1 hl2 hk1 hk2 hsr hlr hO hz hsz hlz hzl hkd hrd hs; go_enter Tryz.func30, Tryz.ntmps30; go_upto_region 1 with (fail); rw [HWW.out]
  go_upto_region 6 with (go_at_call 45; refine (HZ.out _ _ _ _ _).mono ?_; rintro e wA ⟨rfl, hb⟩; have hbe := below_all hbe hb; obtain ⟨x0, x1, x2, x3, _, _, _, _⟩ := (HB0.out.keep hbe HB0.out.lt).four; obtain ⟨y0, y1, y2, y3, _, _, _, _⟩ := (HB1.out.keep hbe HB1.out.lt).four; clear hb)
  have HBE := zh hbe; have HM1 : Hid (∀ V, Below wA.heap.size wA V → Calls Tryz.prog 46 #[.agg #[.bool s2, .slice N2 l2 c2], .agg #[.bool false, .slice D1 k1 d1]] V fun e w' => ∃ R c, e = .returned (.agg #[.bool sz, .slice R lz c]) ∧ NW w' R c z.natAbs ∧ Below V.heap.size V w') := zh (fun V hV => HM.out V (below_all HBE.out hV)); have HA1 : Hid (∀ V, Below wA.heap.size wA V → ∀ R c, NW V R c z.natAbs → Calls Tryz.prog 54 #[.agg #[.bool sz, .slice R lz c], .agg #[.bool s1, .slice N1 l1 c1]] V fun e w' => ∃ R c, e = .returned (.agg #[.bool sr, .slice R lr c]) ∧ NW w' R c (p + q).num.natAbs ∧ Below V.heap.size V w') := zh (fun V hV => HA.out V (below_all HBE.out hV)); have HR0 := zh (HB2.out.keep hbe HB2.out.lt); have hWC := hbe.size; clear HM HA HZ dd1 dd2 hbe
  have kc : ∀ V, Below wA.heap.size wA V → V.cell? ⟨w.heap.size + 1, 0, none⟩ = some (.bool s2) ∧ V.cell? ⟨w.heap.size + 1, 1, none⟩ = some (.slice N2 l2 c2) ∧ V.cell? ⟨w.heap.size, 0, none⟩ = some (.bool s1) ∧ V.cell? ⟨w.heap.size, 1, none⟩ = some (.slice N1 l1 c1) ∧ V.cell? ⟨w.heap.size, 2, none⟩ = some (.bool false) ∧ V.cell? ⟨w.heap.size, 3, none⟩ = some (.slice D1 k1 d1) := fun V h => ⟨keep_cell h y0, keep_cell h y1, keep_cell h x0, keep_cell h x1, keep_cell h x2, keep_cell h x3⟩
  have BZ : Below wA.heap.size wA wA.drew := brf.drew; refine wp_region_held_drew (S := (fun w' => w'.cell? ⟨w.heap.size + 1, 0, none⟩ = some (.bool s2) ∧ w'.cell? ⟨w.heap.size + 1, 1, none⟩ = some (.slice N2 l2 c2) ∧ w'.cell? ⟨w.heap.size, 0, none⟩ = some (.bool s1) ∧ w'.cell? ⟨w.heap.size, 1, none⟩ = some (.slice N1 l1 c1) ∧ w'.cell? ⟨w.heap.size, 2, none⟩ = some (.bool false) ∧ w'.cell? ⟨w.heap.size, 3, none⟩ = some (.slice D1 k1 d1))) (by kernel_rfl) (kc _ BZ) (fun hHeld => ?_); generalize wA.drew = Z at *; refine rz_get 0 44 (.pointer (some ⟨w.heap.size + 1, 0, none⟩)) rfl rfl (by kernel_rfl) (by kernel_rfl) (by rfl) hHeld ?_ ?_
  ·(intro w hSw; (try dsimp only at hSw); go_simp; all_goals (try with_reducible rfl))
  (try simp only [put4]); refine rz_get 1 45 (.agg #[.bool s2, .slice N2 l2 c2]) rfl rfl (by kernel_rfl) (by kernel_rfl) (by rfl) hHeld ?_ ?_
  ·(intro w hSw; (try dsimp only at hSw); go_simp; all_goals (try with_reducible rfl))
  (try simp only [put4]); refine rz_get 2 46 (.pointer (some ⟨w.heap.size, 2, none⟩)) rfl rfl (by kernel_rfl) (by kernel_rfl) (by rfl) hHeld ?_ ?_
  ·(intro w hSw; (try dsimp only at hSw); go_simp; all_goals (try with_reducible rfl))
  (try simp only [put4]); refine rz_get 3 47 (.agg #[.bool false, .slice D1 k1 d1]) rfl rfl (by kernel_rfl) (by kernel_rfl) (by rfl) hHeld ?_ ?_
  ·(intro w hSw; (try dsimp only at hSw); go_simp; all_goals (try with_reducible rfl))
  (try simp only [put4]); refine rz_get 5 49 (.pointer (some ⟨w.heap.size, 0, none⟩)) rfl rfl (by kernel_rfl) (by kernel_rfl) (by rfl) hHeld ?_ ?_
  ·(intro w hSw; (try dsimp only at hSw); go_simp; all_goals (try with_reducible rfl))
  (try simp only [put4]); refine rz_get 6 50 (.agg #[.bool s1, .slice N1 l1 c1]) rfl rfl (by kernel_rfl) (by kernel_rfl) (by rfl) hHeld ?_ ?_
  ·(intro w hSw; (try dsimp only at hSw); go_simp; all_goals (try with_reducible rfl))
  (try simp only [put4]); refine rz_get 8 52 (.pointer (some ⟨w.heap.size, 2, none⟩)) rfl rfl (by kernel_rfl) (by kernel_rfl) (by rfl) hHeld ?_ ?_
  ·(intro w hSw; (try dsimp only at hSw); go_simp; all_goals (try with_reducible rfl))
  (try simp only [put4]); refine rz_get 9 53 (.agg #[.bool false, .slice D1 k1 d1]) rfl rfl (by kernel_rfl) (by kernel_rfl) (by rfl) hHeld ?_ ?_
  ·(intro w hSw; (try dsimp only at hSw); go_simp; all_goals (try with_reducible rfl))
  (try simp only [put4]); refine wpAnyH_ready (rs := [4]) (by kernel_rfl) (by simp) ?_
  refine rz_one rfl fun K hK => ?_
  go_simp
  with_reducible refine Calls.mono (HM1.out _ BZ) ?_
  rintro e Z1 ⟨Rm, rm, rfl, nmx, hb⟩; have NM := zh nmx; have BZ1 := below_all BZ hb; (try go_simp); refine hK.out _ _ (kc _ BZ1) (fun hHeld => ?_); clear hK K hb nmx; (try simp only [put4]); obtain ⟨Zq, rfl⟩ : ∃ x, x = Z1 := ⟨_, rfl⟩; have BZq := BZ1; clear BZ1; rotate_left
  all_goals
    refine wpAnyH_ready (rs := [7]) (by kernel_rfl) (by simp) ?_
    refine rz_one rfl fun K hK => ?_
    go_simp
    with_reducible refine Calls.mono (HA1.out _ BZq _ _ NM.out) ?_
    rintro e Z2 ⟨Ra, ra, rfl, nax, hb⟩; have NM := zh (NM.out.keep hb); have NA := zh nax; have BZ2 := below_all BZq hb; (try go_simp); refine hK.out _ _ (kc _ BZ2) (fun hHeld => ?_); clear hK K hb nax; (try simp only [put4]); refine rz_get 10 54 (.agg #[.bool sr, .slice Ra lr ra, .bool false, .slice D1 k1 d1]) rfl rfl (by kernel_rfl) (by kernel_rfl) (by rfl) hHeld ?_ ?_
    ·(intro w hSw; (try dsimp only at hSw); go_simp; all_goals (try with_reducible rfl))
    (try simp only [put4]); refine wpAnyH_ready (rs := [11]) (by kernel_rfl) (by simp) ?_
    refine rz_one rfl fun K hK => ?_
    have YR := HR0.out.keep BZ2 HR0.out.lt; obtain ⟨t0, t1, t2, t3, f0, f1, f2, f3⟩ := YR.four; have HEND := zh (HFIN.out Z2 Ra ra (below_all HBE.out BZ2) NA.out); have YT := rz_four YR (.bool sr) (.slice Ra lr ra) (.bool false) (.slice D1 k1 d1); go_simp; refine hK.out _ _ ⟨rz_cell4 (keep_cell BZ2 y0) (by omega), rz_cell4 (keep_cell BZ2 y1) (by omega), rz_cell4 (keep_cell BZ2 x0) (by omega), rz_cell4 (keep_cell BZ2 x1) (by omega), rz_cell4 (keep_cell BZ2 x2) (by omega), rz_cell4 (keep_cell BZ2 x3) (by omega)⟩ (fun hHeld => ?_); clear hK K t0 f0 t1 f1 t2 f2 t3 f3; obtain ⟨t0, t1, t2, t3, f0, f1, f2, f3⟩ := YT.four; (try simp only [put4]); refine wpAnyH_done (by kernel_rfl) ?_ _; go_wp2; exact bodyPost_ret (v := .agg #[.bool sr, .slice Ra lr ra, .bool false, .slice D1 k1 d1]) (by simp [results, Tryz.results30, go_sem, t0, t1, t2, t3]) rfl HEND.out
end
end Go.Proofs.Tg.Iw
