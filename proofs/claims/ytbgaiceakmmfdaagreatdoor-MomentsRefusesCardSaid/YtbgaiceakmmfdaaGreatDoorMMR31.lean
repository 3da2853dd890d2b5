/- Parts of the proof: JG3, TX1, TX2, TX3. -/
import Derived.Maps.AppendAt
import Derived.Test.YtbgaiceakmmfdaaGreatDoorMMR0
import Derived.Test.YtbgaiceakmmfdaaGreatDoorMMR8
import Derived.Test.YtbgaiceakmmfdaaGreatDoorMMR30
set_option maxHeartbeats 64000000
set_option maxRecDepth 100000
namespace Go.Proofs.Tg.Iw
section
open Go.RowKit Go.Bw Go.Gr Go.Proofs.Tg Go.Rq
open Go.Proofs.Tg.Fi (PT RetTx mul_q add_q rshort_q below_two)
theorem rtwo_no (p q : Rat) (h : ¬ (Sh p ∧ Sh q)) (w : World) :
    Calls Tryz.prog 25 #[.string (qtx p), .string (qtx q)] w fun e w' => e = .returned (.tuple #[.agg #[.int .i64 0, .int .i64 0], .agg #[.int .i64 0, .int .i64 0], .bool false]) ∧ Below w.heap.size w w' := by
  obtain ⟨W, hW⟩ := eqx ((w.alloc (.cells #[.int .i64 0, .int .i64 0] 62)).alloc (.cells #[.int .i64 0, .int .i64 0] 62))
  have B4 : Blk W w.heap.size 62 #[.int .i64 0, .int .i64 0] := by rw [← hW]; exact (Blk.new _ _ _).alloc _
  have B5 : Blk W (w.heap.size + 1) 62 #[.int .i64 0, .int .i64 0] := by
   rw [← hW]; have := Blk.new (w.alloc (.cells #[.int .i64 0, .int .i64 0] 62)) 62 #[.int .i64 0, .int .i64 0]; simpa using this
  have hbW : Below w.heap.size w W := by rw [← hW]; exact (bal).alloc (by simp) _
  have HW := zh hW; clear hW
  by_cases hp : Sh p
  ·have hq : ¬ Sh q := fun hq => h ⟨hp, hq⟩
   have H1 := zh (fun W => rshort_q p hp W); have H2 := zh (fun W => rsh_no q hq W); clear h hp hq; generalize qtx p = S at *; generalize qtx q = T at *; generalize p.num = a at *; generalize p.den = b at *; go_enter Tryz.func25, Tryz.ntmps25; go_upto_region 1 with (fail); rw [HW.out]; go_wp2_with (fail); refine (H1.out _).mono ?_; rintro e w1 ⟨rfl, hb1⟩; obtain ⟨W1, hW1⟩ := eqx (w1.alloc (.cells #[.int .i64 a, .int .i64 b] 62)); have hb1' := below_all hbW hb1
   have C4 : Blk W1 w.heap.size 62 #[.int .i64 0, .int .i64 0] := by rw [← hW1]; exact (B4.keep hb1 B4.lt).alloc _
   have C5 : Blk W1 (w.heap.size + 1) 62 #[.int .i64 0, .int .i64 0] := by rw [← hW1]; exact (B5.keep hb1 B5.lt).alloc _
   have hbW1 : Below w.heap.size w W1 := by rw [← hW1]; exact hb1'.alloc hb1'.size _
   go_upto_region 4 with (fail)
   try rw [hW1]
   clear hW1 B4 B5 hb1 hb1' H1; go_wp2_with (fail); refine (H2.out _).mono ?_; rintro e w2 ⟨rfl, hb2⟩; obtain ⟨W2, hW2⟩ := eqx (w2.alloc (.cells #[.int .i64 0, .int .i64 0] 62)); have hb2' := below_all hbW1 hb2
   have D4 : Blk W2 w.heap.size 62 #[.int .i64 0, .int .i64 0] := by rw [← hW2]; exact (C4.keep hb2 C4.lt).alloc _
   have D5 : Blk W2 (w.heap.size + 1) 62 #[.int .i64 0, .int .i64 0] := by rw [← hW2]; exact (C5.keep hb2 C5.lt).alloc _
   have hbW2 : Below w.heap.size w W2 := by rw [← hW2]; exact hb2'.alloc hb2'.size _
   have HW2 := zh hW2; clear hW2; go_upto_region 5 with (fail); rw [HW2.out]; clear HW2 C4 C5 hb2 hb2' H2 hbW1; obtain ⟨x0, x1, x2, x3⟩ := D4.two; obtain ⟨y0, y1, y2, y3⟩ := D5.two; go_wp2; refine bodyPost_ret (v := .tuple #[.agg #[.int .i64 0, .int .i64 0], .agg #[.int .i64 0, .int .i64 0], .bool false]) (by simp [results, Tryz.results25, go_sem, x0, x1, y0, y1]) rfl ⟨rfl, ?_⟩; exact below_two (below_two hbW2 (by omega)) (by omega)
  ·have H1 := zh (fun W => rsh_no p hp W); clear h hp; generalize qtx p = S at *; generalize qtx q = T at *; go_enter Tryz.func25, Tryz.ntmps25; go_upto_region 1 with (fail); rw [HW.out]; go_wp2_with (fail); refine (H1.out _).mono ?_; rintro e w1 ⟨rfl, hb1⟩; obtain ⟨W1, hW1⟩ := eqx (w1.alloc (.cells #[.int .i64 0, .int .i64 0] 62)); have hb1' := below_all hbW hb1
   have C4 : Blk W1 w.heap.size 62 #[.int .i64 0, .int .i64 0] := by rw [← hW1]; exact (B4.keep hb1 B4.lt).alloc _
   have C5 : Blk W1 (w.heap.size + 1) 62 #[.int .i64 0, .int .i64 0] := by rw [← hW1]; exact (B5.keep hb1 B5.lt).alloc _
   have hbW1 : Below w.heap.size w W1 := by rw [← hW1]; exact hb1'.alloc hb1'.size _
   have HW1 := zh hW1; clear hW1; go_upto_region 2 with (fail); rw [HW1.out]; clear HW1 B4 B5 hb1 hb1' H1; obtain ⟨x0, x1, x2, x3⟩ := C4.two; obtain ⟨y0, y1, y2, y3⟩ := C5.two; go_wp2; refine bodyPost_ret (v := .tuple #[.agg #[.int .i64 0, .int .i64 0], .agg #[.int .i64 0, .int .i64 0], .bool false]) (by simp [results, Tryz.results25, go_sem, x0, x1, y0, y1]) rfl ⟨rfl, ?_⟩; exact below_two (below_two hbW1 (by omega)) (by omega)
theorem len_div {a b : Nat} (h : (dg a).length < 40) : (dg (a / b)).length ≤ 39 := by
 have h1 : a / b ≤ a := Nat.div_le_self _ _
 refine Nat.le_of_lt_succ (Nat.lt_of_le_of_lt ?_ h)
 exact Go.Bw.dg_len_mono h1
theorem mul_t (p q : Rat) (w : World) (bn1 : (dg p.num.natAbs).length < 40) (bd1 : (dg p.den).length < 40) (bn2 : (dg q.num.natAbs).length < 40) (bd2 : (dg q.den).length < 40) (ht : PT w) (hT : Tab w) :
    Calls Tryz.prog 17 #[.string (qtx p), .string (qtx q)] w (RetTx (p * q) w) := by
  by_cases hs : Sh p ∧ Sh q
  ·exact mul_q p q hs.1 hs.2 w ht
  have H := zh (rtwo_no p q hs w); have HV1 : Hid (∀ V, Below w.heap.size w V → Calls Tryz.prog 27 #[.string (qtx p)] V (RetR p V)) := zh (fun V h => value_q p V (by omega) (by omega) (hT.below h hT.1)); have HV2 : Hid (∀ V, Below w.heap.size w V → Calls Tryz.prog 27 #[.string (qtx q)] V (RetR q V)) := zh (fun V h => value_q q V (by omega) (by omega) (hT.below h hT.1)); have HM : Hid (∀ V N1 c1 D1 d1 N2 c2 D2 d2, Below w.heap.size w V → RNum V p N1 c1 D1 d1 → RNum V q N2 c2 D2 d2 → Calls Tryz.prog 28 #[rval p N1 c1 D1 d1, rval q N2 c2 D2 d2] V (RetR (p * q) V)) := zh (fun V N1 c1 D1 d1 N2 c2 D2 d2 h h1 h2 => rmul_any p q N1 D1 N2 D2 c1 d1 c2 d2 V h1 h2 bn1 bd1 bn2 bd2 (hT.below h hT.1))
  have hnl : (dg (p * q).num.natAbs).length ≤ 79 := by
   rw [(mul_parts p q).1, Int.natAbs_mul]; refine Nat.le_trans (len_mul (i := 39) (j := 39) ?_ ?_) (by omega)
   ·rw [Int.natAbs_tdiv]; exact len_div bn1
   ·rw [Int.natAbs_tdiv]; exact len_div bn2
  have hdl : (dg (p * q).den).length ≤ 79 := by
   rw [(mul_parts p q).2]; refine Nat.le_trans (len_mul (i := 39) (j := 39) ?_ ?_) (by omega)
   ·exact len_div bd1
   ·exact len_div bd2
  have HS : Hid (∀ V N c D d, Below w.heap.size w V → RNum V (p * q) N c D d → Calls Tryz.prog 29 #[rval (p * q) N c D d] V fun e w' => e = .returned (.string (qtx (p * q))) ∧ Below V.heap.size V w') := zh (fun V N c D d h h1 => rstr_q (p * q) N D c d V h1 hnl hdl (ht.keep h)); obtain ⟨W, hW⟩ := eqx (RetTx (p * q) w); have HF : Hid (∀ V, Below w.heap.size w V → W (.returned (.string (qtx (p * q)))) V) := zh (fun V h => by rw [← hW]; exact ⟨rfl, h⟩); rw [hW]; unfold rval at HM HS; clear hs bn1 bd1 bn2 bd2 hT ht hnl hdl hW; generalize qtx p = S at *; generalize qtx q = T at *; generalize qtx (p * q) = U at *; go_enter Tryz.func17, Tryz.ntmps17; go_wp2_with (fail); refine H.out.mono ?_; rintro e w2 ⟨rfl, hb2⟩; obtain ⟨W3, hW3⟩ := eqx ((w2.alloc (.cells #[.int .i64 0, .int .i64 0] 62)).alloc (.cells #[.int .i64 0, .int .i64 0] 62))
  have HB3 : Hid (Below w.heap.size w W3) := zh (by rw [← hW3]; exact (hb2.alloc hb2.size _).alloc (by have := hb2.size; simp; omega) _); have HW3 := zh hW3; clear hW3; go_upto_region 2 with (fail); rw [HW3.out]; clear HW3 hb2 H; go_wp2_with (fail); refine (HV1.out _ HB3.out).mono ?_; rintro e w4 ⟨N1, c1, D1, d1, rfl, hR1, hb4⟩; have HB4 := zh (below_all HB3.out hb4); have HR1 := zh hR1; clear hR1 hb4; unfold rval; go_wp2_with (fail); refine (HV2.out _ HB4.out).mono ?_; rintro e w5 ⟨N2, c2, D2, d2, rfl, hR2, hb5⟩; have HB5 := zh (below_all HB4.out hb5); have HR1 := zh (HR1.out.keep hb5); have HR2 := zh hR2; clear hR2 hb5; unfold rval; go_wp2_with (fail); refine (HM.out _ _ _ _ _ _ _ _ _ HB5.out HR1.out HR2.out).mono ?_; rintro e w6 ⟨N3, c3, D3, d3, rfl, hR3, hb6⟩; have HB6 := zh (below_all HB5.out hb6); have HR3 := zh hR3; clear hR3 hb6; unfold rval; go_wp2_with (fail)
  refine (HS.out _ _ _ _ _ HB6.out HR3.out).mono ?_; rintro e w7 ⟨rfl, hb7⟩; have HE := zh (HF.out _ (below_all HB6.out hb7)); go_wp2; exact HE.out
theorem add_t (p q : Rat) (w : World) (bn1 : (dg p.num.natAbs).length ≤ 79) (bd1 : (dg p.den).length ≤ 79) (bn2 : (dg q.num.natAbs).length < 40) (bd2 : (dg q.den).length < 40) (hnl : (dg (p + q).num.natAbs).length ≤ 79) (hdl : (dg (p + q).den).length ≤ 79) (ht : PT w) (hT : Tab w) :
    Calls Tryz.prog 18 #[.string (qtx p), .string (qtx q)] w (RetTx (p + q) w) := by
  by_cases hs : Sh p ∧ Sh q
  ·exact add_q p q hs.1 hs.2 w ht
  have H := zh (rtwo_no p q hs w); have HV1 : Hid (∀ V, Below w.heap.size w V → Calls Tryz.prog 27 #[.string (qtx p)] V (RetR p V)) := zh (fun V h => value_q p V (by omega) (by omega) (hT.below h hT.1)); have HV2 : Hid (∀ V, Below w.heap.size w V → Calls Tryz.prog 27 #[.string (qtx q)] V (RetR q V)) := zh (fun V h => value_q q V (by omega) (by omega) (hT.below h hT.1)); have HM : Hid (∀ V N1 c1 D1 d1 N2 c2 D2 d2, Below w.heap.size w V → RNum V p N1 c1 D1 d1 → RNum V q N2 c2 D2 d2 → Calls Tryz.prog 30 #[rval p N1 c1 D1 d1, rval q N2 c2 D2 d2] V (RetR (p + q) V)) := zh (fun V N1 c1 D1 d1 N2 c2 D2 d2 h h1 h2 => radd_any p q N1 D1 N2 D2 c1 d1 c2 d2 V h1 h2 (by omega) bn2 (by omega) bd2 (hT.below h hT.1))
  have HS : Hid (∀ V N c D d, Below w.heap.size w V → RNum V (p + q) N c D d → Calls Tryz.prog 29 #[rval (p + q) N c D d] V fun e w' => e = .returned (.string (qtx (p + q))) ∧ Below V.heap.size V w') := zh (fun V N c D d h h1 => rstr_q (p + q) N D c d V h1 hnl hdl (ht.keep h)); obtain ⟨W, hW⟩ := eqx (RetTx (p + q) w); have HF : Hid (∀ V, Below w.heap.size w V → W (.returned (.string (qtx (p + q)))) V) := zh (fun V h => by rw [← hW]; exact ⟨rfl, h⟩); rw [hW]; unfold rval at HM HS; clear hs bn1 bd1 bn2 bd2 hT ht hnl hdl hW; generalize qtx p = S at *; generalize qtx q = T at *; generalize qtx (p + q) = U at *; go_enter Tryz.func18, Tryz.ntmps18; go_wp2_with (fail); refine H.out.mono ?_; rintro e w2 ⟨rfl, hb2⟩; obtain ⟨W3, hW3⟩ := eqx ((w2.alloc (.cells #[.int .i64 0, .int .i64 0] 62)).alloc (.cells #[.int .i64 0, .int .i64 0] 62))
  have HB3 : Hid (Below w.heap.size w W3) := zh (by rw [← hW3]; exact (hb2.alloc hb2.size _).alloc (by have := hb2.size; simp; omega) _); have HW3 := zh hW3; clear hW3; go_upto_region 2 with (fail); rw [HW3.out]; clear HW3 hb2 H; go_wp2_with (fail); refine (HV1.out _ HB3.out).mono ?_; rintro e w4 ⟨N1, c1, D1, d1, rfl, hR1, hb4⟩; have HB4 := zh (below_all HB3.out hb4); have HR1 := zh hR1; clear hR1 hb4; unfold rval; go_wp2_with (fail); refine (HV2.out _ HB4.out).mono ?_; rintro e w5 ⟨N2, c2, D2, d2, rfl, hR2, hb5⟩; have HB5 := zh (below_all HB4.out hb5); have HR1 := zh (HR1.out.keep hb5); have HR2 := zh hR2; clear hR2 hb5; unfold rval; go_wp2_with (fail); refine (HM.out _ _ _ _ _ _ _ _ _ HB5.out HR1.out HR2.out).mono ?_; rintro e w6 ⟨N3, c3, D3, d3, rfl, hR3, hb6⟩; have HB6 := zh (below_all HB5.out hb6); have HR3 := zh hR3; clear hR3 hb6; unfold rval; go_wp2_with (fail)
  refine (HS.out _ _ _ _ _ HB6.out HR3.out).mono ?_; rintro e w7 ⟨rfl, hb7⟩; have HE := zh (HF.out _ (below_all HB6.out hb7)); go_wp2; exact HE.out
end
end Go.Proofs.Tg.Iw
namespace Go.Proofs.Tg.Fi
section
open Go.RowKit Go.Rq Go.Qn Go.Proofs.Tg
def vq (q : Rat) : Value := .string (qtx q)
abbrev Txts (w : World) (A : Option Addr) (qs : List Rat) : Prop := Sl w A qs.length 1 (qs.map vq)
theorem Txts.at {w : World} {A : Option Addr} {qs : List Rat} (h : Txts w A qs) {k : Nat} (hk : k < qs.length) : ∃ ad, A = some ad ∧ w.cell? (ad.add k) = some (.string (qtx qs[k])) := by
 obtain ⟨ad, rfl, hc⟩ := Sl.at1 h hk
 exact ⟨ad, rfl, by simpa [vq] using hc⟩
theorem numbers_q (A : Option Addr) (c : Nat) (qs : List Rat) (w : World) (hA : Txts w A qs) (hs : ∀ q ∈ qs, Sh q) (hn : qs.length ≤ 1000000) :
    Calls Tryz.prog 14 #[.slice A qs.length c] w fun e w' => e = .returned (.bool true) ∧ Below w.heap.size w w' := by
  have HV := zh (fun q (h : q ∈ qs) W => valid_q q (hs q h) W); obtain ⟨n, hn'⟩ := eqx (qs.length); have HA := zh hA; rw [hn'] at hn ⊢; have HN := zh hn'; clear hs hA hn'; go_enter Tryz.func14, Tryz.ntmps14; go_wp2
  go_loopw [7] (fun s7 wr => ∃ k : Nat, s7 = .int .i64 (k : Nat) ∧ k ≤ n ∧ Hid (Below w.heap.size w wr)) (fun s7 _ => n - (intOf s7).toNat)
  case atStart => exact ⟨0, rfl, Nat.zero_le _, zh brf⟩
  case round =>
   obtain ⟨wo, rfl⟩ : ∃ wo : World, wo = wr := ⟨_, rfl⟩; obtain ⟨k, rfl, hk, HB⟩ := hrel
   by_cases hkn : k = n
   ·have e1 : decide ((k : Int) < (n : Int)) = false := dF (by omega); have e1' : decide (k < n) = false := dF (by omega); clear hkn; go_wp2; go_ret; exact ⟨rfl, HB.out⟩
   ·have hkl : k < n := by omega
    have e1 : decide ((k : Int) < (n : Int)) = true := dT (by omega); have e1' : decide (k < n) = true := dT hkl; obtain ⟨ad, rfl, hc⟩ := Txts.at (HA.out.keep HB.out) (k := k) (by rw [HN.out]; exact hkl); have HC := zh (HV.out (qs[k]'(by rw [HN.out]; exact hkl)) (List.getElem_mem _) wo); generalize qtx (qs[k]'(by rw [HN.out]; exact hkl)) = S at *; clear hkn; go_wp2_with (fail); refine HC.out.mono ?_; rintro e w2 ⟨rfl, hb2⟩; go_wp2; go_roundw
    case rel => exact ⟨k + 1, by go_num, by omega, zh (below_all HB.out hb2)⟩
    case measure => simp [intOf]; omega
end
end Go.Proofs.Tg.Fi
namespace Go.Proofs.Tg.Fi
section
open Go.RowKit Go.Rq Go.Qn Go.Bn Go.Proofs.Tg
def tpart (qs : List Rat) (n k : Nat) : Array Value := ((qs.take k).map vq ++ List.replicate (n - k) (Value.string ⟨#[]⟩)).toArray
theorem tpart_zero (qs : List Rat) (n : Nat) : madeCells #[.string ⟨#[]⟩] n = tpart qs n 0 := by
 apply Array.ext
 ·simp [tpart, size_madeCells]
 ·intro i h1 h2
  simp [madeCells, tpart, Nat.mod_one]
theorem tpart_all {qs : List Rat} {n : Nat} (h : qs.length = n) : tpart qs n n = (qs.map vq).toArray := by
 subst h
 simp [tpart]
theorem tpart_set {qs : List Rat} {n k : Nat} (h : qs.length = n) (hk : k < n) : (tpart qs n k).setIfInBounds k (.string (qtx (qs[k]'(by omega)))) = tpart qs n (k + 1) := by
 unfold tpart
 rw [List.take_succ_eq_append_getElem (by omega), show n - k = (n - (k + 1)) + 1 by omega, List.replicate_succ]
 have e : ((qs.take k).map vq).length = k := by simp; omega
 simp only [List.setIfInBounds_toArray, List.map_append]
 congr 1
 rw [List.set_append_right _ _ (by omega), e, Nat.sub_self, List.set_cons_zero]
 simp [vq]
theorem tpart_at {qs : List Rat} {n k : Nat} (h : qs.length = n) (hk : k < n) : ∃ u, (tpart qs n k)[k]? = some u := by
 refine ⟨_, Array.getElem?_eq_getElem ?_⟩
 simp [tpart]; omega
theorem txts_of {w : World} {g : Nat} {qs : List Rat} (h : Blk w g 9 (qs.map vq).toArray) : Txts w (some ⟨g, 0, none⟩) qs :=
  ⟨by simp, fun _ => ⟨_, rfl, h.lt, fun j u hu => by rw [add_lit, Nat.zero_add, h.cell j]; simpa using hu⟩⟩
theorem text_info : (Tryz.prog.info? 9).map (fun i => (i.zero, i.size, i.bytes)) = some (some (.string ⟨#[]⟩), 1, 16) := by kernel_rfl
theorem make_txts (n : Nat) (hn : n ≤ 1000000) (w : World) : (Instr.makeSlice 22 (.int .i64 (n : Int)) (.int .i64 (n : Int))).run Tryz.prog w = .ok (.slice (some ⟨w.heap.size, 0, none⟩) n n) (w.alloc (.cells (madeCells #[.string ⟨#[]⟩] n) 9)) := by
 obtain ⟨i0, hi, hz0, hz1, hz2⟩ := info_parts text_info
 have hr := run_make (P := Tryz.prog) w 22 9 i0 (.string ⟨#[]⟩) Tryz.underlying22 hi hz0 .i64 .i64 n n (by omega) (by omega) (by rw [hz2]; omega) (by omega)
 rw [hz1, Nat.mul_one, Int.toNat_natCast] at hr
 exact hr
structure TRow where
  A : Option Addr
  c : Nat
  qs : List Rat
def TRow.cell (r : TRow) : Value := .slice r.A r.qs.length r.c
def TRow.own (base : Nat) (w : World) (r : TRow) : Prop := w.ownsRow base 9 1 (.slice r.A r.qs.length r.c) r.qs.length (r.qs.map vq)
def pw (d : Nat) (x : Rat) : List Rat := (List.range (d + 1)).map fun e => x ^ e
def pwTo (k : Nat) (x : Rat) : List Rat := (List.range k).map fun e => x ^ e
theorem pwTo_succ (k : Nat) (x : Rat) : pwTo (k + 1) x = pwTo k x ++ [x ^ k] := by unfold pwTo; rw [List.range_succ, List.map_append]; rfl
def heads (done : List TRow) (cur : Value) (n : Nat) : Array Value := (done.map TRow.cell ++ cur :: List.replicate (n - (done.length + 1)) (Value.slice none 0 0)).toArray
theorem heads_set (done : List TRow) (cur cur' : Value) (n : Nat) : (heads done cur n).setIfInBounds done.length cur' = heads done cur' n := by
 unfold heads
 rw [List.setIfInBounds_toArray, List.set_append_right _ _ (by simp), List.length_map, Nat.sub_self, List.set_cons_zero]
theorem heads_at (done : List TRow) (cur : Value) (n : Nat) : (heads done cur n)[done.length]? = some cur := by
 unfold heads
 rw [List.getElem?_toArray, List.getElem?_append_right (by simp), List.length_map, Nat.sub_self]; rfl
def heads2 (done : List TRow) (n : Nat) : Array Value := (done.map TRow.cell ++ List.replicate (n - done.length) (Value.slice none 0 0)).toArray
theorem heads2_open (done : List TRow) (n : Nat) (h : done.length < n) : heads2 done n = heads done (.slice none 0 0) n := by
 unfold heads2 heads
 rw [show n - done.length = (n - (done.length + 1)) + 1 by omega, List.replicate_succ]
theorem heads2_shut (done : List TRow) (r : TRow) (n : Nat) : heads done r.cell n = heads2 (done ++ [r]) n := by
 unfold heads2 heads
 congr 1
 rw [List.map_append, List.length_append]
 simp
theorem heads2_zero (n : Nat) : madeCells #[.slice none 0 0] n = heads2 [] n := by
 apply Array.ext
 ·simp [heads2, size_madeCells]
 ·intro i h1 h2
  simp [madeCells, heads2, Nat.mod_one]
theorem heads2_all (done : List TRow) : heads2 done done.length = (done.map TRow.cell).toArray := by simp [heads2]
theorem txtrow_info : (Tryz.prog.info? 22).map (fun i => (i.zero, i.size, i.bytes)) = some (some (.slice none 0 0), 1, 24) := by kernel_rfl
theorem make_txtrows (n : Nat) (hn : n ≤ 1000000) (w : World) : (Instr.makeSlice 33 (.int .i64 (n : Int)) (.int .i64 (n : Int))).run Tryz.prog w = .ok (.slice (some ⟨w.heap.size, 0, none⟩) n n) (w.alloc (.cells (madeCells #[.slice none 0 0] n) 22)) := by
 obtain ⟨i0, hi, hz0, hz1, hz2⟩ := info_parts txtrow_info
 have hr := run_make (P := Tryz.prog) w 33 22 i0 (.slice none 0 0) Tryz.underlying33 hi hz0 .i64 .i64 n n (by omega) (by omega) (by rw [hz2]; omega) (by omega)
 rw [hz1, Nat.mul_one, Int.toNat_natCast] at hr
 exact hr
theorem own_str_far {w : World} {g base : Nat} {cs : Array Value} {r : TRow} (h : r.own base w) (B : Blk w g 22 cs) (i : Nat) (u : Value) : r.own base (w.setCell ⟨g, i, none⟩ u) :=
  own_far h (own_blk_ne h B (by decide)) u
structure PowsB (base : Nat) (w : World) (g : Nat) (d : Nat) (xs : List Rat) (rows : List TRow) : Prop where
  ge : base ≤ g
  hd : Blk w g 22 (rows.map TRow.cell).toArray
  eq : rows.map TRow.qs = xs.map (pw d)
  own : ∀ r ∈ rows, r.own base w
theorem PowsB.keep {base : Nat} {w w' : World} {g d : Nat} {xs : List Rat} {rows : List TRow} (h : PowsB base w g d xs rows) (hb : Below w.heap.size w w') : PowsB base w' g d xs rows :=
  ⟨h.ge, h.hd.keep hb h.hd.lt, h.eq, fun r hr => own_below (h.own r hr) hb (Nat.le_refl _)⟩
theorem PowsB.far {base : Nat} {w : World} {g d b : Nat} {xs : List Rat} {rows : List TRow} (h : PowsB base w g d xs rows) (hb : b < base) (i : Nat) (u : Value) : PowsB base (w.setCell ⟨b, i, none⟩ u) g d xs rows :=
  ⟨h.ge, h.hd.far (by have := h.ge; simp; omega) _, h.eq, fun r hr => own_far (h.own r hr) (fun e => by have := ((h.own r hr).lt _ e.symm).1; simp only at this; omega) u⟩
theorem PowsB.at {base : Nat} {w : World} {g d : Nat} {xs : List Rat} {rows : List TRow} (h : PowsB base w g d xs rows) {j : Nat} (hj : j < xs.length) : ∃ R c, w.cell? ⟨g, j, none⟩ = some (.slice R (d + 1) c) ∧ Txts w R (pw d xs[j]) := by
 have hl : rows.length = xs.length := by have := congrArg List.length h.eq; simpa using this
 have hj2 : j < rows.length := by omega
 have hq : rows[j].qs = pw d xs[j] := by
  have h1 : (rows.map TRow.qs)[j]? = (xs.map (pw d))[j]? := by rw [h.eq]
  simpa [hj, hj2] using h1
 have hql : rows[j].qs.length = d + 1 := by rw [hq]; simp [pw]
 refine ⟨rows[j].A, rows[j].c, ?_, ?_⟩
 ·rw [h.hd.cell j]
  simp [hj2, TRow.cell, hql]
 ·rw [← hq]; exact Sl.own (h.own _ (List.getElem_mem hj2))
theorem pw_at (d : Nat) (x : Rat) {e : Nat} (he : e ≤ d) : ∃ h : e < (pw d x).length, (pw d x)[e] = x ^ e := ⟨by simp [pw]; omega, by simp [pw]⟩
structure PwSt (w : World) (d g n : Nat) (xs : List Rat) (wr : World) (j : Nat) (done : List TRow) : Prop where
  below : Below w.heap.size w wr
  hd : Blk wr g 22 (heads2 done n)
  own : ∀ r ∈ done, r.own w.heap.size wr
  eq : done.map TRow.qs = (xs.take j).map (pw d)
structure PwIn (w w0 : World) (g n : Nat) (wr : World) (done : List TRow) (r : TRow) : Prop where
  below : Below w.heap.size w wr
  size : w0.heap.size ≤ wr.heap.size
  hd : Blk wr g 22 (heads done r.cell n)
  own : ∀ r ∈ done, r.own w.heap.size wr
  cur : r.own w0.heap.size wr
def RetPows (d : Nat) (xs : List Rat) (w : World) (e : Ending) (w' : World) : Prop := ∃ g rows, e = .returned (.slice (some ⟨g, 0, none⟩) xs.length xs.length) ∧ PowsB w.heap.size w' g d xs rows ∧ Below w.heap.size w w'
structure Arith (S M V : Rat → Prop) (T : World → Prop) : Prop where
  vm : ∀ q, V q → M q
  keep : ∀ (w w' : World), T w → Below w.heap.size w w' → T w'
  mul : ∀ (p q : Rat), M p → M q → ∀ w, T w → Calls Tryz.prog 17 #[.string (qtx p), .string (qtx q)] w (RetTx (p * q) w)
  add : ∀ (p q : Rat), S p → M q → S (p + q) → ∀ w, T w → Calls Tryz.prog 18 #[.string (qtx p), .string (qtx q)] w (RetTx (p + q) w)
  numbers : ∀ (A : Option Addr) (c : Nat) (qs : List Rat) (w : World), Txts w A qs → (∀ q ∈ qs, V q) → qs.length ≤ 1000000 → T w → Calls Tryz.prog 14 #[.slice A qs.length c] w fun e w' => e = .returned (.bool true) ∧ Below w.heap.size w w'
theorem arith_sh : Arith Sh Sh Sh PT where
  vm := fun _ h => h
  keep := fun _ _ h hb => h.keep hb
  mul := fun p q hp hq w h => mul_q p q hp hq w h
  add := fun p q hp hq _ w h => add_q p q hp hq w h
  numbers := fun A c qs w h1 h2 h3 _ => numbers_q A c qs w h1 h2 h3
theorem pows_gen {S M V : Rat → Prop} {T : World → Prop} (AR : Arith S M V T) (X : Option Addr) (cx d : Nat) (xs : List Rat) (w : World) (hX : Txts w X xs) (hs : ∀ x ∈ xs, V x ∧ ∀ e, e ≤ d → M (x ^ e)) (hn : xs.length ≤ 1000) (hd : d ≤ 1000) (ht : T w) :
    Calls Tryz.prog 16 #[.slice X xs.length cx, .int .i64 (d : Nat)] w (RetPows d xs w) := by
  obtain ⟨i0, hi, hz0, hz1, hz2⟩ := info_parts text_info; obtain ⟨n, hn'⟩ := eqx (xs.length); have HX := zh hX; have HSH := zh hs; have HT := zh ht; have hmk := make_txtrows n (by omega); obtain ⟨W, hW⟩ := eqx (w.alloc (.cells (madeCells #[.slice none 0 0] n) 22))
  have HST : Hid (PwSt w d w.heap.size n xs W 0 []) := zh (by
   refine ⟨?_, ?_, fun r hr => absurd hr (by simp), by simp⟩
   ·rw [← hW]; exact bal
   ·rw [← hW, ← heads2_zero n]; exact Blk.new _ _ _)
  unfold RetPows; rw [hn'] at hn ⊢; have HN := zh hn'; have HWW := zh hW; clear hX hs ht hn' hW; go_enter Tryz.func16, Tryz.ntmps16; go_upto_region 2 with (fail); rw [HWW.out]; go_wp2
  go_loopw [14] (fun s14 wr => ∃ (done : List TRow), s14 = .int .i64 (done.length : Nat) ∧ done.length ≤ n ∧ Hid (PwSt w d w.heap.size n xs wr done.length done)) (fun s14 _ => n - (intOf s14).toNat)
  case atStart => exact ⟨[], rfl, Nat.zero_le _, HST⟩
  case round =>
   clear HST; obtain ⟨wo, rfl⟩ : ∃ wo : World, wo = wr := ⟨_, rfl⟩; obtain ⟨done, rfl, hk, HST⟩ := hrel; obtain ⟨k, hkk⟩ := eqx (done.length); rw [hkk] at hk ⊢; have HK := zh hkk; clear hkk
   by_cases hkn : k = n
   ·have e1 : decide ((k : Int) < (n : Int)) = false := dF (by omega); have e1' : decide (k < n) = false := dF (by omega); have HKN := zh hkn; clear hkn; go_wp2; go_ret; have h := HST.out; have hB := h.hd
    have hdl : done.length = n := by rw [HK.out]; exact HKN.out
    rw [← hdl, heads2_all] at hB; refine ⟨w.heap.size, done, rfl, ⟨Nat.le_refl _, hB, ?_, h.own⟩, h.below⟩; rw [h.eq, hdl, ← HN.out, List.take_length]
   ·have hkl : k < n := by omega
    have e1 : decide ((k : Int) < (n : Int)) = true := dT (by omega); have e1' : decide (k < n) = true := dT hkl
    have q0 : (0 : Int) ≤ (k : Int) := by omega
    have q1 : (k : Int) < (n : Int) := by omega
    have hkx : k < xs.length := by rw [HN.out]; exact hkl
    obtain ⟨ad, rfl, hc⟩ := Txts.at (HX.out.keep HST.out.below) hkx; have HTK : Hid (xs.take (k + 1) = xs.take k ++ [xs[k]'hkx]) := zh (List.take_succ_eq_append_getElem hkx); have HSX := zh (HSH.out (xs[k]'hkx) (List.getElem_mem _)); generalize xs[k]'hkx = x at *; have hgw : w.heap.size < wo.heap.size := HST.out.hd.lt
    have HIN : Hid (PwIn w wo w.heap.size n wo done ⟨none, 0, []⟩) := zh (by
     have h := HST.out; refine ⟨h.below, Nat.le_refl _, ?_, h.own, World.ownsRow_nil _ _ _ _⟩; have := h.hd; rw [heads2_open done n (by rw [HK.out]; exact hkl)] at this
     exact this)
    have HP0 : Hid (bs [49] = qtx (x ^ 0)) := zh (by
     rw [Rat.pow_zero, show (1 : Rat) = ((1 : Int) : Rat) from rfl, qtx_int]
     have : Lib.itoa 1 = [49] := by unfold Lib.itoa; rw [if_neg (by omega)]; exact dec_one
     rw [this])
    obtain ⟨S, hS⟩ := eqx (qtx x); rw [hS] at hc; have HSS := zh hS; clear hkn hS; go_wp2
    go_loopw [8, 21] (fun s8 s21 wr => ∃ (r : TRow) (U : ByteArray), s8 = .string U ∧ s21 = .int .i64 (r.qs.length : Nat) ∧ r.qs.length ≤ d + 1 ∧ Hid (U = qtx (x ^ r.qs.length)) ∧ Hid (r.qs = pwTo r.qs.length x) ∧ Hid (PwIn w wo w.heap.size n wr done r)) (fun _ s21 _ => d + 1 - (intOf s21).toNat)
    case atStart => exact ⟨⟨none, 0, []⟩, _, rfl, rfl, Nat.zero_le _, HP0, zh rfl, HIN⟩
    case round =>
     clear HIN hc; obtain ⟨wi, rfl⟩ : ∃ wi : World, wi = wr := ⟨_, rfl⟩; obtain ⟨r, U, rfl, rfl, hr, HU, HQ, HPI⟩ := hrel; obtain ⟨m, hm⟩ := eqx (r.qs.length); rw [hm] at hr HU HQ ⊢; have HM := zh hm; clear hm
     by_cases hmd : m = d + 1
     ·have e2 : decide ((m : Int) < (d : Int) + 1) = false := dF (by omega); have HMD := zh hmd; clear hmd; go_wp2; go_roundw
      case rel =>
       refine ⟨done ++ [r], by rw [List.length_append, HK.out]; go_num, by rw [List.length_append, HK.out]; simp; omega, zh ⟨HPI.out.below, ?_, ?_, ?_⟩⟩
       ·rw [← heads2_shut]; exact HPI.out.hd
       ·intro r' hr'
        rcases List.mem_append.1 hr' with hr' | hr'
        ·exact HPI.out.own r' hr'
        ·rw [List.mem_singleton.1 hr']; exact own_base HPI.out.cur (Nat.le_of_lt hgw)
       ·rw [List.length_append, HK.out, List.length_singleton, HTK.out, List.map_append, List.map_append]; have := HST.out.eq; rw [HK.out] at this; rw [this, List.map_cons, List.map_nil, List.map_cons, List.map_nil, HQ.out, HMD.out]
        rfl
      case measure => simp [intOf]; omega
     ·have hmd2 : m < d + 1 := by omega
      have e2 : decide ((m : Int) < (d : Int) + 1) = true := dT (by omega); have hB := HPI.out.hd
      have c0 : wi.cell? ⟨w.heap.size, k, none⟩ = some (.slice r.A m r.c) := by
       rw [hB.cell k, ← HK.out, heads_at]; unfold TRow.cell; rw [HM.out]
      have f0 := hB.frozen k; have hsz := HPI.out.size; have hcur := HPI.out.cur; unfold TRow.own at hcur; rw [HM.out] at hcur; have hcurA := hcur.alloc (.cells #[.string U] 9); have hgs : w.heap.size < wi.heap.size := hB.lt; clear hmd hB; obtain ⟨rA, hrA⟩ := eqx (r.A); obtain ⟨rc, hrc⟩ := eqx (r.c); rw [hrA, hrc] at c0 hcur hcurA; have HRA := zh hrA; have HRC := zh hrc; clear hrA hrc; have HCA := zh hcurA
      go_wp2_with (first
        | (at_builtin; refine wpList_append_own_at _ rfl _ _ 22 rfl wo.heap.size 9 i0 _ 1 16 Tryz.underlying22 hi hz0 hz1 hz2 rfl (by decide) (.slice rA m rc) m _ rfl hcurA ⟨wi.heap.size, 0, none⟩ 1 1 [.string U] rfl rfl ?c1 ?c2 ?c3 ?c4 ?c5 ?_
           case c1 => exact cell_one_new _ _ _
           case c2 => simp [Value.oneCell']
           case c3 => simp only [maxLen]; omega
           case c4 => omega
           case c5 => simp; omega
           intro v' w5 hown' hgrow _ hat
           have hnb : some w.heap.size ≠ (Value.slice rA m rc).ownBlock := fun e => by have := (HCA.out.lt _ e.symm).1; omega
           have hal := Below.alloc (Below.refl wi.heap.size wi) (Nat.le_refl _) (.cells #[.string U] 9); have hB5 := (HPI.out.hd.keep hal HPI.out.hd.lt).grown hgrow hnb
           have c5 : w5.cell? ⟨w.heap.size, k, none⟩ = some (.slice rA m rc) := by
            rw [hB5.cell k, ← HK.out, heads_at]; unfold TRow.cell; rw [HM.out, HRA.out, HRC.out]
           have f5 := hB5.frozen k; obtain ⟨A2, cs2, hv2, _, _⟩ := Sl.of_own hown'
           subst hv2))
      have hbe5 : Below w.heap.size w w5 := (below_all HPI.out.below hal).grown hgrow (by have := (below_all HPI.out.below hal).size; exact this) (fun j hj => by have := (hcurA.lt j hj).1; omega)
      have hds : ∀ q ∈ done, q.own w.heap.size w5 := fun q hq => by
       have h1 := own_below (HPI.out.own q hq) hal (Nat.le_refl _); refine h1.kept hgrow ?_
       cases hob : (Value.slice q.A q.qs.length q.c).ownBlock with
       | none => exact .inl rfl
       | some b =>
         refine .inr (fun e => ?_); have h2 := ((HST.out.own q hq).lt b hob).2; have h3 := (hcurA.lt b e.symm).1; omega
      have HDS := zh hds; have HB5 := zh hB5; have HC5 := zh hown'; have HBE := zh hbe5
      have hs5 : wo.heap.size ≤ w5.heap.size := by have := hgrow.size; simp at this; omega
      have HMU := zh (fun V (h : Below w.heap.size w V) => AR.mul (x ^ m) x (HSX.out.2 m (by omega)) (AR.vm _ HSX.out.1) V (AR.keep _ _ HT.out h)); rw [← HU.out, HSS.out] at HMU; unfold RetTx at HMU; have HPS : Hid (x ^ m * x = x ^ (m + 1)) := zh (Rat.pow_succ x m).symm; rw [HPS.out] at HMU; obtain ⟨U2, hU2⟩ := eqx (qtx (x ^ (m + 1))); rw [hU2] at HMU; have HU2 := zh hU2; clear hds hbe5 hal hcurA hcur hB5 hown' hgrow hat hU2 c0 f0; have hbe6 : Below w.heap.size w (w5.setCell ⟨w.heap.size, k, none⟩ (.slice A2 (m + 1) cs2)) := below_far HBE.out (Nat.le_refl _) _ _
      have hlen : (r.qs ++ [x ^ m]).length = m + 1 := by rw [List.length_append, HM.out]; rfl
      have HIN2 : Hid (∀ V, Below (w5.setCell ⟨w.heap.size, k, none⟩ (.slice A2 (m + 1) cs2)).heap.size (w5.setCell ⟨w.heap.size, k, none⟩ (.slice A2 (m + 1) cs2)) V → PwIn w wo w.heap.size n V done ⟨A2, cs2, r.qs ++ [x ^ m]⟩) := zh (fun V hV => by
       have hB6 := HB5.out.set k (.slice A2 (m + 1) cs2); rw [← HK.out, heads_set, HK.out] at hB6
       have hcell : TRow.cell ⟨A2, cs2, r.qs ++ [x ^ m]⟩ = .slice A2 (m + 1) cs2 := by unfold TRow.cell; rw [hlen]
       refine ⟨below_all hbe6 hV, ?_, ?_, ?_, ?_⟩
       ·have h1 := hV.size
        have h2 : (w5.setCell ⟨w.heap.size, k, none⟩ (.slice A2 (m + 1) cs2)).heap.size = w5.heap.size := by simp [World.setCell]
        omega
       ·rw [hcell]; exact hB6.keep hV hB6.lt
       ·intro q hq; exact own_below (own_str_far (HDS.out q hq) HB5.out k _) hV (Nat.le_refl _)
       ·have h1 : TRow.own wo.heap.size w5 ⟨A2, cs2, r.qs ++ [x ^ m]⟩ := by
         unfold TRow.own; rw [hlen, List.map_append]; have h2 := HC5.out; rw [show U = qtx (x ^ m) from HU.out] at h2; exact h2
        exact own_below (own_str_far h1 HB5.out k _) hV (Nat.le_refl _))
      have HLEN := zh hlen; clear hlen; refine (HMU.out _ hbe6).mono ?_; rintro e w7 ⟨rfl, hb7⟩; go_wp2; go_roundw
      case rel =>
       refine ⟨⟨A2, cs2, r.qs ++ [x ^ m]⟩, U2, rfl, by rw [HLEN.out]; go_num, by rw [HLEN.out]; omega, zh (by rw [HLEN.out, HU2.out]), zh (by rw [HLEN.out, pwTo_succ, ← HQ.out]), HIN2.out _ hb7⟩
      case measure => simp [intOf]; omega
end
end Go.Proofs.Tg.Fi
