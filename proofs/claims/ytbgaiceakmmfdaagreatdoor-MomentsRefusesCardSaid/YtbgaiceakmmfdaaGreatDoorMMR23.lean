/- Parts of the proof: JB11, JC1, JC2, JC3. -/
import Derived.Test.YtbgaiceakmmfdaaGreatDoorMMR0
import Derived.Test.YtbgaiceakmmfdaaGreatDoorMMR21
import Derived.Test.YtbgaiceakmmfdaaGreatDoorMMR22
set_option maxHeartbeats 64000000
set_option maxRecDepth 100000
namespace Go.Proofs.Tg.Iw
section
open Go.RowKit Go.Bw Go.Gr Go.Proofs.Tg Go.Rq Go.Qn
open Go.Proofs.Tg.Fi (TxS TxR Buf RetTa RetBuf txs_append byte_src PT qtx_int qtx_frac fmti_any)
theorem rstr_frac (q : Rat) (N D : Option Addr) (cn cd : Nat) (w : World) (h : RNum w q N cn D cd) (h1 : q.den ≠ 1) (hn : (dg q.num.natAbs).length ≤ 79) (hd : (dg q.den).length ≤ 79) (ht : PT w) :
    Calls Tryz.prog 29 #[.agg #[.bool (decide (q.num < 0)), .slice N (dg q.num.natAbs).length cn, .bool false, .slice D (dg q.den).length cd]] w fun e w' => e = .returned (.string (bs (Lib.itoa q.num ++ 47 :: Lib.itoa (q.den : Int)))) ∧ Below w.heap.size w w' := by
  have hD : NW w D cd q.den := by have := h.den; rwa [dnz_pos h1] at this
  have hd0 : q.den ≠ 0 := q.den_nz; obtain ⟨W, hW⟩ := eqx (w.alloc (.cells #[.bool (decide (q.num < 0)), .slice N (dg q.num.natAbs).length cn, .bool false, .slice D (dg q.den).length cd] 70))
  have hbW : Below w.heap.size w W := by rw [← hW]; exact bal
  have HBW := zh hbW
  have B0 : Blk W w.heap.size 70 #[.bool (decide (q.num < 0)), .slice N (dg q.num.natAbs).length cn, .bool false, .slice D (dg q.den).length cd] := by rw [← hW]; exact Blk.new _ _ _
  have HB0 := zh B0; have hpd := dg_len_pos.2 hd0
  have HZ : Hid (∀ V, Calls Tryz.prog 45 #[.agg #[.bool false, .slice D (dg q.den).length cd]] V fun e w' => e = .returned (.bool false) ∧ Below V.heap.size V w') := zh (fun V => by
   have := iszero_any false D (dg q.den).length cd V
   rwa [dF (by omega)] at this)
  have hin : (dg q.num.natAbs).length ≤ 79 → (Lib.itoa q.num).length ≤ 20000 := fun h => itoa_len h
  have HA1 : Hid (∀ V, Below W.heap.size W V → Calls Tryz.prog 53 #[.agg #[.bool (decide (q.num < 0)), .slice N (dg q.num.natAbs).length cn], .slice none 0 0] V fun e w' => ∃ A' n' c', e = .returned (.slice A' n' c') ∧ Hid (n' = (Lib.itoa q.num).length ∧ TxS w' A' c' (Lib.itoa q.num) ∧ TxR none V A' w')) := zh (fun V hb => by
   refine (iapp_w q.num N none cn 0 [] V ((h.num.keep hbW).keep hb) (Fi.TxS.zero V) hn (by simp) ((ht.keep hbW).keep hb) (fun _ h => by cases h)).mono ?_; rintro e w' ⟨A', c', rfl, h1, h2⟩
   exact ⟨A', _, c', rfl, zh ⟨by simp, by simpa using h1, h2⟩⟩)
  have HA2 : Hid (∀ V V2 A' n' c', Below W.heap.size W V → TxS V2 A' c' (Lib.itoa q.num ++ [47]) → TxR none V A' V2 → n' = (Lib.itoa q.num ++ [47]).length → Calls Tryz.prog 53 #[.agg #[.bool false, .slice D (dg q.den).length cd], .slice A' n' c'] V2 fun e w' => ∃ g n2 c2, e = .returned (.slice (some ⟨g, 0, none⟩) n2 c2) ∧ (convert 91 9 (.slice (some ⟨g, 0, none⟩) n2 c2)).run Tryz.prog w' = .ok (.string (bs (Lib.itoa q.num ++ 47 :: Lib.itoa (q.den : Int)))) w' ∧ Hid (Below V.heap.size V w')) := zh (fun V V2 A' n' c' hb hT hR hn' => by
   have hp := (ht.keep hbW).keep hb
   have hlen : (Lib.itoa q.num ++ [47]).length ≤ 500000 := by
    have := hin hn; rw [List.length_append]; simp; omega
   have := iapp_w (q.den : Int) D A' cd c' (Lib.itoa q.num ++ [47]) V2 (((hD.keep hbW).keep hb).txr (Fi.TxS.zero V) hR) hT (by simpa using hd) hlen (pt_rel hp hR (fun _ h => by cases h)) (pa_txr hR hp (fun _ h => by cases h)); rw [hn']; refine this.mono ?_; rintro e w' ⟨A3, c3, rfl, h1, h2⟩
   have e1 : Lib.itoa q.num ++ [47] ++ Lib.itoa (q.den : Int) = Lib.itoa q.num ++ 47 :: Lib.itoa (q.den : Int) := by simp
   rw [e1] at h1; obtain ⟨g, rfl, hc⟩ := TxS.cells h1 (by simp)
   have e2 : (Lib.itoa q.num ++ [47]).length + (Lib.itoa (q.den : Int)).length = (Lib.itoa q.num ++ 47 :: Lib.itoa (q.den : Int)).length := by rw [← e1]; simp only [List.length_append]
   refine ⟨g, _, c3, rfl, ?_, zh ((hR.trans h2).below (Nat.le_refl _) (fun _ h => by cases h))⟩; rw [e2]
   exact run_convert_bytes_back (P := Tryz.prog) w' 91 9 5 ⟨g, 0, none⟩ c3 _ Tryz.underlying91 Tryz.underlying5 Tryz.underlying9 hc)
  have HNL : Hid ((Lib.itoa q.num).length + 1 ≤ 500000) := zh (by have := hin hn; omega); have HWW := zh hW; clear hW hbW B0 h h1 hn hd ht hD hd0 hpd hin; generalize decide (q.num < 0) = x at *; generalize (dg q.num.natAbs).length = nx at *; generalize (dg q.den).length = nd at *; generalize bs (Lib.itoa q.num ++ 47 :: Lib.itoa (q.den : Int)) = S at *; generalize Lib.itoa q.num = L at *; obtain ⟨x0, x1, x2, x3, _, _, _, _⟩ := HB0.out.four; go_enter Tryz.func29, Tryz.ntmps29; go_upto_region 1 with (fail); rw [HWW.out]
  go_upto_region 6 with (go_at_call 45; refine (HZ.out _).mono ?_; rintro e w1 ⟨rfl, hb1⟩; have HB1 := zh hb1; have Y := HB0.out.keep hb1 HB0.out.lt; obtain ⟨x0, x1, x2, x3, _, _, _, _⟩ := Y.four; clear hb1 Y)
  go_upto_region 7 with (first
    | (go_at_call 53; refine (HA1.out _ HB1.out).mono ?_; rintro e w2 ⟨A1, n1, c1, rfl, HT1⟩; obtain ⟨A2, c2, w3, hr, hT2, hR2⟩ := txs_zero HT1.out.2.1 47 (by have := HNL.out; omega); rw [← HT1.out.1] at hr; have HRUN := zh hr; have hR3 := HT1.out.2.2.trans hR2; have Y := ((HB0.out.keep HB1.out HB0.out.lt).same' hR3 (Fi.TxS.zero _)); obtain ⟨x0, x1, x2, x3, _, _, _, _⟩ := Y.four; have HN2 := zh (HA2.out _ _ _ (n1 + 1) _ HB1.out hT2 hR3 (by rw [List.length_append, HT1.out.1]; rfl)); clear hr hT2 hR2 hR3 Y)
    | (at_builtin; refine Fi.wpList_append_run _ rfl _ _ 91 91 rfl _ _ HRUN.out ?_))
  go_wp2_with (go_at_call 53; refine HN2.out.mono ?_; rintro e w4 ⟨g, n2, c2, rfl, hcv, hbe⟩)
  go_ret; exact ⟨rfl, below_all HBW.out (below_all HB1.out hbe.out)⟩
theorem rstr_q (q : Rat) (N D : Option Addr) (cn cd : Nat) (w : World) (h : RNum w q N cn D cd) (hn : (dg q.num.natAbs).length ≤ 79) (hd : (dg q.den).length ≤ 79) (ht : PT w) :
    Calls Tryz.prog 29 #[rval q N cn D cd] w fun e w' => e = .returned (.string (qtx q)) ∧ Below w.heap.size w w' := by
  unfold rval
  by_cases h1 : q.den = 1
  ·have e : qtx q = bs (Lib.itoa q.num) := by
    have hq : q = (q.num : Rat) := by
     apply Rat.ext
     ·rfl
     ·exact h1
    conv => lhs; rw [hq]
    exact qtx_int _
   rw [e, h1, dnz_one, dg_zero]; exact rstr_whole q N D cn cd w h h1 hn ht
  ·rw [qtx_frac h1, dnz_pos h1]; exact rstr_frac q N D cn cd w h h1 hn hd ht
end
end Go.Proofs.Tg.Iw
namespace Go.Proofs.Tg.Iw
section
open Go.RowKit Go.Bw Go.Gr Go.Proofs.Tg Go.Rq
theorem NW.offB {w : World} {R : Option Addr} {c n g : Nat} {t : TypeId} {cs : Array Value} (h : NW w R c n) (B : Blk w g t cs) (hc : ∀ v ∈ cs.toList, ∀ x : Int, v ≠ .int .u64 x) : Off R (dg n).length g :=
  h.wds.off (by decide) B fun v hv hm => by
   obtain ⟨x, _, rfl⟩ := List.mem_map.1 hm; exact hc _ hv _ rfl
theorem quo_w (z : Int) (b : Nat) (A B : Option Addr) (c d : Nat) (w : World) (hA : NW w A c z.natAbs) (hB : NW w B d b) (ha : (dg z.natAbs).length ≤ 400000) (hbl : (dg b).length ≤ 400000) (hb : b ≠ 0) (hs : (dg b).length < 80 ∨ (dg z.natAbs).length < (dg b).length + 80) :
    Calls Tryz.prog 55 #[.agg #[.bool (decide (z < 0)), .slice A (dg z.natAbs).length c], .agg #[.bool false, .slice B (dg b).length d]] w (RetZ (z.tdiv (b : Int)) w) := by
  obtain ⟨W, hW⟩ := eqx (((w.alloc (.cells #[.bool (decide (z < 0)), .slice A (dg z.natAbs).length c] 68)).alloc (.cells #[.bool false, .slice B (dg b).length d] 68)).alloc (.cells #[.bool false, .slice none 0 0] 68))
  have B0 : Blk W w.heap.size 68 #[.bool (decide (z < 0)), .slice A (dg z.natAbs).length c] := by rw [← hW]; exact ((Blk.new _ _ _).alloc _).alloc _
  have B1 : Blk W (w.heap.size + 1) 68 #[.bool false, .slice B (dg b).length d] := by
   rw [← hW]; have := (Blk.new (w.alloc (.cells #[.bool (decide (z < 0)), .slice A (dg z.natAbs).length c] 68)) 68 #[.bool false, .slice B (dg b).length d]).alloc (.cells #[.bool false, .slice none 0 0] 68); simpa using this
  have B2 : Blk W (w.heap.size + 1 + 1) 68 #[.bool false, .slice none 0 0] := by
   rw [← hW]; have := Blk.new ((w.alloc (.cells #[.bool (decide (z < 0)), .slice A (dg z.natAbs).length c] 68)).alloc (.cells #[.bool false, .slice B (dg b).length d] 68)) 68 #[.bool false, .slice none 0 0]; simpa using this
  have hbW : Below w.heap.size w W := by rw [← hW]; exact ((bal).alloc (by simp) _).alloc (by simp; omega) _
  have HBW := zh hbW; have HB0 := zh B0; have HB1 := zh B1; have HB2 := zh B2; have HWW := zh hW; have HO := zh (isone_w B d b W (hB.keep hbW)); have HA := zh (hA.keep hbW)
  have tna : (z.tdiv (b : Int)).natAbs = z.natAbs / b := by rw [Int.natAbs_tdiv]; rfl
  have tsg : ((decide (z < 0) != false) && decide (z.natAbs / b ≠ 0)) = decide (z.tdiv (b : Int) < 0) := by
   by_cases hz : z < 0
   ·rw [dT hz]
    have h1 : z.tdiv (b : Int) = -((z.natAbs / b : Nat) : Int) := by
     have e : z = -(z.natAbs : Int) := by omega
     conv => lhs; rw [e]
     rw [Int.neg_tdiv, Int.ofNat_tdiv]
    rw [h1]
    show decide _ = decide _
    rw [decide_eq_decide]; omega
   ·rw [dF hz]
    have h1 : z.tdiv (b : Int) = ((z.natAbs / b : Nat) : Int) := by
     have e : z = (z.natAbs : Int) := by omega
     conv => lhs; rw [e]
     rw [Int.ofNat_tdiv]
    rw [h1, dF (show ¬ ((z.natAbs / b : Nat) : Int) < 0 by omega)]
    rfl
  obtain ⟨x0, x1, _, _⟩ := B0.two; obtain ⟨y0, y1, _, _⟩ := B1.two; obtain ⟨r0, r1, r2, r3⟩ := B2.two
  by_cases h1 : b = 1
  ·subst h1
   have e : z.tdiv ((1 : Nat) : Int) = z := by simp
   rw [e]; have e2 : RetZ z w = RetSg (decide (z < 0)) z.natAbs w := rfl; rw [e2]; have HL : Hid (∀ V, Below W.heap.size W V → RetSg (decide (z < 0)) z.natAbs w (.returned (.agg #[.bool (decide (z < 0)), .slice A (dg z.natAbs).length c])) ((V.setCell ⟨w.heap.size + 1 + 1, 0, none⟩ (.bool (decide (z < 0)))).setCell ⟨w.heap.size + 1 + 1, 1, none⟩ (.slice A (dg z.natAbs).length c))) := zh (fun V hV => retSg_last HBW.out hV (HA.out.keep hV) (by omega) (HB2.out.keep hV HB2.out.lt)); generalize RetSg (decide (z < 0)) z.natAbs w = Q at *; generalize decide (z < 0) = x at *; generalize (dg z.natAbs).length = na at *; clear hW hbW B0 B1 B2 hA hB tna tsg e e2 ha hs; generalize (dg 1).length = nb at *; go_enter Tryz.func55, Tryz.ntmps55; go_upto_region 1 with (fail); rw [HWW.out]
   go_wp2_with (go_at_call 40; refine HO.out.mono ?_; rintro e w1 ⟨rfl, hb1⟩; have HB3 := zh hb1; obtain ⟨x0, x1, _, _⟩ := (HB0.out.keep hb1 HB0.out.lt).two; have Y2 := HB2.out.keep hb1 HB2.out.lt; obtain ⟨r0, r1, r2, r3⟩ := Y2.two; clear hb1)
   exact bodyPost_ret (v := .agg #[.bool x, .slice A na c]) (by simp [results, Tryz.results55, go_sem, r0, r1]) rfl (HL.out w1 HB3.out)
  ·rw [dF h1] at HO; have HQ := zh (fun V (hV : Below W.heap.size W V) => quorem_num (decide (z < 0)) false A B c d z.natAbs b V ((hA.keep hbW).keep hV) ((hB.keep hbW).keep hV) ha hbl hb hs); unfold RetQn at HQ
   have e2 : RetZ (z.tdiv (b : Int)) w = RetSg ((decide (z < 0) != false) && decide (z.natAbs / b ≠ 0)) (z.natAbs / b) w := by
    unfold RetZ RetSg; rw [tna, tsg]
   rw [e2]; obtain ⟨s1, hs1⟩ := eqx (((decide (z < 0) != false) && decide (z.natAbs / b ≠ 0))); obtain ⟨qn, hqn⟩ := eqx (z.natAbs / b); obtain ⟨s2, hs2⟩ := eqx ((decide (z < 0) && decide (z.natAbs % b ≠ 0))); rw [hs1, hs2, hqn] at HQ; rw [hs1, hqn]; obtain ⟨nq, hnq⟩ := eqx ((dg qn).length); have HL : Hid (∀ V Q cq, Below W.heap.size W V → NW V Q cq qn → RetSg s1 qn w (.returned (.agg #[.bool s1, .slice Q nq cq])) ((V.setCell ⟨w.heap.size + 1 + 1, 0, none⟩ (.bool s1)).setCell ⟨w.heap.size + 1 + 1, 1, none⟩ (.slice Q nq cq))) := zh (fun V Q cq hV hN => by rw [← hnq]; exact retSg_last HBW.out hV hN (by omega) (HB2.out.keep hV HB2.out.lt)); rw [hnq] at HQ; generalize RetSg s1 qn w = Q at *; generalize decide (z < 0) = x at *; generalize (dg z.natAbs).length = na at *; generalize (dg (z.natAbs % b)).length = nr at *; clear hW hbW B0 B1 B2 hA hB tna tsg e2 ha hs hbl hb h1 hs1 hs2 hqn hnq
   generalize (dg b).length = nb at *; go_enter Tryz.func55, Tryz.ntmps55; go_upto_region 1 with (fail); rw [HWW.out]
   go_upto_region 3 with (go_at_call 40; refine HO.out.mono ?_; rintro e w1 ⟨rfl, hb1⟩; have HB3 := zh hb1; obtain ⟨x0, x1, _, _⟩ := (HB0.out.keep hb1 HB0.out.lt).two; obtain ⟨y0, y1, _, _⟩ := (HB1.out.keep hb1 HB1.out.lt).two; clear hb1)
   go_wp2_with (go_at_call 79; refine (HQ.out _ HB3.out).mono ?_; rintro e w2 ⟨Q1, cq, R1, cr, rfl, hN1, hN2, hb2⟩; have HB4 := zh (below_all HB3.out hb2); have HN1 := zh hN1; have Y2 := HB2.out.keep HB4.out HB2.out.lt; have hal : Below w2.heap.size w2 ((w2.alloc (.cells #[.bool s1, .slice Q1 nq cq] 68)).alloc (.cells #[.bool s2, .slice R1 nr cr] 68)) := (bal).alloc (by simp) _; have HAL := zh hal; have Y3 := Y2.keep hal Y2.lt; obtain ⟨r0, r1, r2, r3⟩ := Y3.two; clear hb2 hN1 hN2 hal)
   exact bodyPost_ret (v := .agg #[.bool s1, .slice Q1 nq cq]) (by simp [results, Tryz.results55, go_sem, r0, r1]) rfl (HL.out _ Q1 cq (below_all HB4.out HAL.out) (HN1.out.keep HAL.out))
def RetR (q : Rat) (w : World) (e : Ending) (w' : World) : Prop := ∃ N cn D cd, e = .returned (rval q N cn D cd) ∧ RNum w' q N cn D cd ∧ Below w.heap.size w w'
theorem retz_nat (n : Nat) (w : World) : RetZ (n : Int) w = RetSg false n w := by
 unfold RetZ RetSg
 have e1 : decide ((n : Int) < 0) = false := dF (by omega)
 rw [e1, Int.natAbs_natCast]
theorem den_one (q : Rat) (x : Bool) (N D : Option Addr) (ln cn cd : Nat) (w : World) (h1 : q.den = 1) :
    Calls Tryz.prog 48 #[.agg #[.bool x, .slice N ln cn, .bool false, .slice D 0 cd]] w (RetZ (q.den : Int) w) := by
  rw [retz_nat, h1]; obtain ⟨W, hW⟩ := eqx ((w.alloc (.cells #[.bool x, .slice N ln cn, .bool false, .slice D 0 cd] 70)).alloc (.cells #[.bool false, .slice none 0 0] 68))
  have B0 : Blk W w.heap.size 70 #[.bool x, .slice N ln cn, .bool false, .slice D 0 cd] := by rw [← hW]; exact (Blk.new _ _ _).alloc _
  have B1 : Blk W (w.heap.size + 1) 68 #[.bool false, .slice none 0 0] := by
   rw [← hW]; have := Blk.new (w.alloc (.cells #[.bool x, .slice N ln cn, .bool false, .slice D 0 cd] 70)) 68 #[.bool false, .slice none 0 0]; simpa using this
  have hbW : Below w.heap.size w W := by rw [← hW]; exact (bal).alloc (by simp) _
  have HWW := zh hW; have HB1 := zh B1; have HZ := zh (iszero_any false D 0 cd W); have HN : Hid (∀ V, Calls Tryz.prog 74 #[.int .i64 1] V (RetSg false 1 V)) := zh (fun V => inew_one V); unfold RetSg at HN; obtain ⟨l1, hl1⟩ := eqx ((dg 1).length); have HL : Hid (∀ V R c, Below W.heap.size W V → NW V R c 1 → RetSg false 1 w (.returned (.agg #[.bool false, .slice R l1 c])) ((V.setCell ⟨w.heap.size + 1, 0, none⟩ (.bool false)).setCell ⟨w.heap.size + 1, 1, none⟩ (.slice R l1 c))) := zh (fun V R c hV hR => by rw [← hl1]; exact retSg_last hbW hV hR (by omega) (HB1.out.keep hV HB1.out.lt)); rw [hl1] at HN; generalize RetSg false 1 w = Q at *; obtain ⟨x0, x1, x2, x3, _, _, _, _⟩ := B0.four; clear hW hbW B0 B1 hl1; go_enter Tryz.func48, Tryz.ntmps48; go_upto_region 1 with (fail); rw [HWW.out]
  go_wp2_with (first
    | (go_at_call 45; refine HZ.out.mono ?_; rintro e w1 ⟨rfl, hb1⟩; have HB2 := zh hb1; clear hb1)
    | (go_at_call 74; refine (HN.out _).mono ?_; rintro e w2 ⟨R, c, rfl, hR, hb2⟩; have HR := zh hR; have HB3 := zh (below_all HB2.out hb2); obtain ⟨r0, r1, r2, r3⟩ := (HB1.out.keep HB3.out HB1.out.lt).two; clear hR hb2))
  exact bodyPost_ret (v := .agg #[.bool false, .slice R l1 c]) (by simp [results, Tryz.results48, go_sem, r0, r1]) rfl (HL.out w2 R c HB3.out HR.out)
theorem den_more (m : Nat) (x : Bool) (N D : Option Addr) (ln cn cd : Nat) (w : World) (h0 : m ≠ 0) (hD : NW w D cd m) :
    Calls Tryz.prog 48 #[.agg #[.bool x, .slice N ln cn, .bool false, .slice D (dg m).length cd]] w (RetZ (m : Int) w) := by
  rw [retz_nat]; obtain ⟨W, hW⟩ := eqx ((w.alloc (.cells #[.bool x, .slice N ln cn, .bool false, .slice D (dg m).length cd] 70)).alloc (.cells #[.bool false, .slice none 0 0] 68))
  have B0 : Blk W w.heap.size 70 #[.bool x, .slice N ln cn, .bool false, .slice D (dg m).length cd] := by rw [← hW]; exact (Blk.new _ _ _).alloc _
  have B1 : Blk W (w.heap.size + 1) 68 #[.bool false, .slice none 0 0] := by
   rw [← hW]; have := Blk.new (w.alloc (.cells #[.bool x, .slice N ln cn, .bool false, .slice D (dg m).length cd] 70)) 68 #[.bool false, .slice none 0 0]; simpa using this
  have hbW : Below w.heap.size w W := by rw [← hW]; exact (bal).alloc (by simp) _
  have HWW := zh hW; have HB0 := zh B0; have HB1 := zh B1; have hp := dg_len_pos.2 h0
  have HZ : Hid (Calls Tryz.prog 45 #[.agg #[.bool false, .slice D (dg m).length cd]] W fun e w' => e = .returned (.bool false) ∧ Below W.heap.size W w') := zh (by
   have := iszero_any false D (dg m).length cd W
   rwa [dF (by omega)] at this)
  have HL : Hid (∀ V, Below W.heap.size W V → RetSg false m w (.returned (.agg #[.bool false, .slice D (dg m).length cd])) ((V.setCell ⟨w.heap.size + 1, 0, none⟩ (.bool false)).setCell ⟨w.heap.size + 1, 1, none⟩ (.slice D (dg m).length cd))) := zh (fun V hV => retSg_last hbW hV ((hD.keep hbW).keep hV) (by omega) (HB1.out.keep hV HB1.out.lt)); generalize RetSg false m w = Q at *; obtain ⟨x0, x1, x2, x3, _, _, _, _⟩ := B0.four; clear hW hbW B0 B1 hp hD h0; generalize (dg m).length = lm at *; go_enter Tryz.func48, Tryz.ntmps48; go_upto_region 1 with (fail); rw [HWW.out]
  go_wp2_with (go_at_call 45; refine HZ.out.mono ?_; rintro e w1 ⟨rfl, hb1⟩; have HB2 := zh hb1; obtain ⟨x0, x1, x2, x3, _, _, _, _⟩ := (HB0.out.keep hb1 HB0.out.lt).four; obtain ⟨r0, r1, r2, r3⟩ := (HB1.out.keep hb1 HB1.out.lt).two; clear hb1)
  exact bodyPost_ret (v := .agg #[.bool false, .slice D lm cd]) (by simp [results, Tryz.results48, go_sem, r0, r1]) rfl (HL.out w1 HB2.out)
theorem den_w (q : Rat) (N D : Option Addr) (cn cd : Nat) (w : World) (h : RNum w q N cn D cd) :
    Calls Tryz.prog 48 #[rval q N cn D cd] w (RetZ (q.den : Int) w) := by
  unfold rval
  by_cases h1 : q.den = 1
  ·have := den_one q (decide (q.num < 0)) N D (dg q.num.natAbs).length cn cd w h1; rw [h1, dnz_one, dg_zero]
   rwa [h1] at this
  ·have hD := h.den; rw [dnz_pos h1] at hD ⊢; exact den_more q.den _ N D _ cn cd w q.den_nz hD
theorem nw_four {w : World} {R : Option Addr} {c n g : Nat} (h : NW w R c n) (ho : Off R (dg n).length g) (a b e f : Value) : NW ((((w.setCell ⟨g, 0, none⟩ a).setCell ⟨g, 1, none⟩ b).setCell ⟨g, 2, none⟩ e).setCell ⟨g, 3, none⟩ f) R c n :=
  (((h.far ho _ _).far ho _ _).far ho _ _).far ho _ _
theorem nil4 : ∀ v ∈ (#[.bool false, .slice none 0 0, .bool false, .slice none 0 0] : Array Value).toList, ∀ x : Int, v ≠ .int .u64 x := by simp
theorem lowest_w (q : Rat) (N D : Option Addr) (cn cd : Nat) (w : World) (hN : NW w N cn q.num.natAbs) (hD : NW w D cd q.den) :
    Calls Tryz.prog 49 #[.agg #[.bool (decide (q.num < 0)), .slice N (dg q.num.natAbs).length cn], .agg #[.bool false, .slice D (dg q.den).length cd]] w (RetR q w) := by
  obtain ⟨W, hW⟩ := eqx (((w.alloc (.cells #[.bool (decide (q.num < 0)), .slice N (dg q.num.natAbs).length cn] 68)).alloc (.cells #[.bool false, .slice D (dg q.den).length cd] 68)).alloc (.cells #[.bool false, .slice none 0 0, .bool false, .slice none 0 0] 70))
  have B0 : Blk W w.heap.size 68 #[.bool (decide (q.num < 0)), .slice N (dg q.num.natAbs).length cn] := by rw [← hW]; exact ((Blk.new _ _ _).alloc _).alloc _
  have B1 : Blk W (w.heap.size + 1) 68 #[.bool false, .slice D (dg q.den).length cd] := by
   rw [← hW]; have := (Blk.new (w.alloc (.cells #[.bool (decide (q.num < 0)), .slice N (dg q.num.natAbs).length cn] 68)) 68 #[.bool false, .slice D (dg q.den).length cd]).alloc (.cells #[.bool false, .slice none 0 0, .bool false, .slice none 0 0] 70); simpa using this
  have B2 : Blk W (w.heap.size + 1 + 1) 70 #[.bool false, .slice none 0 0, .bool false, .slice none 0 0] := by
   rw [← hW]; have := Blk.new ((w.alloc (.cells #[.bool (decide (q.num < 0)), .slice N (dg q.num.natAbs).length cn] 68)).alloc (.cells #[.bool false, .slice D (dg q.den).length cd] 68)) 70 #[.bool false, .slice none 0 0, .bool false, .slice none 0 0]; simpa using this
  have hbW : Below w.heap.size w W := by rw [← hW]; exact ((bal).alloc (by simp) _).alloc (by simp; omega) _
  have HBW := zh hbW; have HB0 := zh B0; have HB1 := zh B1; have HB2 := zh B2; have HWW := zh hW; have HO := zh (isone_w D cd q.den W (hD.keep hbW)); obtain ⟨x0, x1, _, _⟩ := B0.two; obtain ⟨y0, y1, _, _⟩ := B1.two
  by_cases h1 : q.den = 1
  ·rw [dT h1] at HO
   have HL : Hid (∀ V, Below W.heap.size W V → RetR q w (.returned (.agg #[.bool (decide (q.num < 0)), .slice N (dg q.num.natAbs).length cn, .bool false, .slice none 0 0])) ((((V.setCell ⟨w.heap.size + 1 + 1, 0, none⟩ (.bool (decide (q.num < 0)))).setCell ⟨w.heap.size + 1 + 1, 1, none⟩ (.slice N (dg q.num.natAbs).length cn)).setCell ⟨w.heap.size + 1 + 1, 2, none⟩ (.bool false)).setCell ⟨w.heap.size + 1 + 1, 3, none⟩ (.slice none 0 0))) := zh (fun V hV => by
    have Y := HB2.out.keep hV HB2.out.lt; have hN2 := (hN.keep hbW).keep hV; refine ⟨N, cn, none, 0, ?_, ⟨nw_four hN2 (hN2.offB Y nil4) _ _ _ _, ?_⟩, ?_⟩
    ·unfold rval; rw [h1, dnz_one, dg_zero]; rfl
    ·rw [h1, dnz_one]; exact NW.zero _ _ _
    ·exact below_far (below_far (below_far (below_far (below_all hbW hV) (by omega) _ _) (by omega) _ _) (by omega) _ _) (by omega) _ _)
   generalize RetR q w = Q at *; generalize decide (q.num < 0) = x at *; generalize (dg q.num.natAbs).length = ln at *; generalize (dg q.den).length = ld at *; clear hW hbW B0 B1 B2 hN hD h1; go_enter Tryz.func49, Tryz.ntmps49; go_upto_region 1 with (fail); rw [HWW.out]
   go_wp2_with (go_at_call 40; refine HO.out.mono ?_; rintro e w1 ⟨rfl, hb1⟩; have HB3 := zh hb1; obtain ⟨x0, x1, _, _⟩ := (HB0.out.keep hb1 HB0.out.lt).two; obtain ⟨r0, r1, r2, r3, r4, r5, r6, r7⟩ := (HB2.out.keep hb1 HB2.out.lt).four; clear hb1)
   exact bodyPost_ret (v := .agg #[.bool x, .slice N ln cn, .bool false, .slice none 0 0]) (by simp [results, Tryz.results49, go_sem, r0, r1, r2, r3]) rfl (HL.out w1 HB3.out)
  ·rw [dF h1] at HO
   have HL : Hid (∀ V, Below W.heap.size W V → RetR q w (.returned (.agg #[.bool (decide (q.num < 0)), .slice N (dg q.num.natAbs).length cn, .bool false, .slice D (dg q.den).length cd])) ((((V.setCell ⟨w.heap.size + 1 + 1, 0, none⟩ (.bool (decide (q.num < 0)))).setCell ⟨w.heap.size + 1 + 1, 1, none⟩ (.slice N (dg q.num.natAbs).length cn)).setCell ⟨w.heap.size + 1 + 1, 2, none⟩ (.bool false)).setCell ⟨w.heap.size + 1 + 1, 3, none⟩ (.slice D (dg q.den).length cd))) := zh (fun V hV => by
    have Y := HB2.out.keep hV HB2.out.lt; have hN2 := (hN.keep hbW).keep hV; have hD2 := (hD.keep hbW).keep hV; refine ⟨N, cn, D, cd, ?_, ⟨nw_four hN2 (hN2.offB Y nil4) _ _ _ _, ?_⟩, ?_⟩
    ·unfold rval; rw [dnz_pos h1]
    ·rw [dnz_pos h1]; exact nw_four hD2 (hD2.offB Y nil4) _ _ _ _
    ·exact below_far (below_far (below_far (below_far (below_all hbW hV) (by omega) _ _) (by omega) _ _) (by omega) _ _) (by omega) _ _)
   generalize RetR q w = Q at *; generalize decide (q.num < 0) = x at *; generalize (dg q.num.natAbs).length = ln at *; generalize (dg q.den).length = ld at *; clear hW hbW B0 B1 B2 hN hD h1; go_enter Tryz.func49, Tryz.ntmps49; go_upto_region 1 with (fail); rw [HWW.out]
   go_wp2_with (go_at_call 40; refine HO.out.mono ?_; rintro e w1 ⟨rfl, hb1⟩; have HB3 := zh hb1; obtain ⟨x0, x1, _, _⟩ := (HB0.out.keep hb1 HB0.out.lt).two; obtain ⟨y0, y1, _, _⟩ := (HB1.out.keep hb1 HB1.out.lt).two; obtain ⟨r0, r1, r2, r3, r4, r5, r6, r7⟩ := (HB2.out.keep hb1 HB2.out.lt).four; clear hb1)
   exact bodyPost_ret (v := .agg #[.bool x, .slice N ln cn, .bool false, .slice D ld cd]) (by simp [results, Tryz.results49, go_sem, r0, r1, r2, r3]) rfl (HL.out w1 HB3.out)
def RetZ2 (z : Int) (m : Nat) (w : World) (e : Ending) (w' : World) : Prop :=
  ∃ N cn D cd, e = .returned (.tuple #[.agg #[.bool (decide (z < 0)), .slice N (dg z.natAbs).length cn], .agg #[.bool false, .slice D (dg m).length cd]]) ∧ NW w' N cn z.natAbs ∧ NW w' D cd m ∧ Below w.heap.size w w'
theorem cancel_one (z : Int) (A B : Option Addr) (c d : Nat) (w : World) (hA : NW w A c z.natAbs) (hB : NW w B d 1) :
    Calls Tryz.prog 47 #[.agg #[.bool (decide (z < 0)), .slice A (dg z.natAbs).length c], .agg #[.bool false, .slice B (dg 1).length d]] w (RetZ2 z 1 w) := by
  obtain ⟨x, hx⟩ := eqx (decide (z < 0)); obtain ⟨na, hna⟩ := eqx ((dg z.natAbs).length); obtain ⟨nb, hnb⟩ := eqx ((dg 1).length); rw [hx, hna, hnb]; obtain ⟨W, hW⟩ := eqx ((((w.alloc (.cells #[.bool x, .slice A na c] 68)).alloc (.cells #[.bool false, .slice B nb d] 68)).alloc (.cells #[.bool false, .slice none 0 0] 68)).alloc (.cells #[.bool false, .slice none 0 0] 68))
  have B0 : Blk W w.heap.size 68 #[.bool x, .slice A na c] := by rw [← hW]; exact (((Blk.new _ _ _).alloc _).alloc _).alloc _
  have B1 : Blk W (w.heap.size + 1) 68 #[.bool false, .slice B nb d] := by
   rw [← hW]; have := ((Blk.new (w.alloc (.cells #[.bool x, .slice A na c] 68)) 68 #[.bool false, .slice B nb d]).alloc (.cells #[.bool false, .slice none 0 0] 68)).alloc (.cells #[.bool false, .slice none 0 0] 68); simpa using this
  have B2 : Blk W (w.heap.size + 1 + 1) 68 #[.bool false, .slice none 0 0] := by
   rw [← hW]; have := (Blk.new ((w.alloc (.cells #[.bool x, .slice A na c] 68)).alloc (.cells #[.bool false, .slice B nb d] 68)) 68 #[.bool false, .slice none 0 0]).alloc (.cells #[.bool false, .slice none 0 0] 68); simpa using this
  have B3 : Blk W (w.heap.size + 1 + 1 + 1) 68 #[.bool false, .slice none 0 0] := by
   rw [← hW]; have := (Blk.new (((w.alloc (.cells #[.bool x, .slice A na c] 68)).alloc (.cells #[.bool false, .slice B nb d] 68)).alloc (.cells #[.bool false, .slice none 0 0] 68)) 68 #[.bool false, .slice none 0 0]); simpa using this
  have hbW : Below w.heap.size w W := by rw [← hW]; exact (((bal).alloc (by simp) _).alloc (by simp; omega) _).alloc (by simp; omega) _
  have HB0 := zh B0; have HB1 := zh B1; have HB2 := zh B2; have HB3 := zh B3; have HWW := zh hW; have HO : Hid (Calls Tryz.prog 40 #[.agg #[.bool false, .slice B nb d]] W fun e w' => e = .returned (.bool true) ∧ Below W.heap.size W w') := zh (by rw [← hnb]; exact isone_w B d 1 W (hB.keep hbW))
  have HL : Hid (∀ V V', Below W.heap.size W V → (((((V.setCell ⟨w.heap.size + 1 + 1, 0, none⟩ (.bool x)).setCell ⟨w.heap.size + 1 + 1, 1, none⟩ (.slice A na c)).setCell ⟨w.heap.size + 1 + 1 + 1, 0, none⟩ (.bool false)).setCell ⟨w.heap.size + 1 + 1 + 1, 1, none⟩ (.slice B nb d)) = V' ∨ ((((V.setCell ⟨w.heap.size + 1 + 1 + 1, 0, none⟩ (.bool false)).setCell ⟨w.heap.size + 1 + 1 + 1, 1, none⟩ (.slice B nb d)).setCell ⟨w.heap.size + 1 + 1, 0, none⟩ (.bool x)).setCell ⟨w.heap.size + 1 + 1, 1, none⟩ (.slice A na c)) = V') → RetZ2 z 1 w (.returned (.tuple #[.agg #[.bool x, .slice A na c], .agg #[.bool false, .slice B nb d]])) V'.drew) := zh (fun V V' hV hor => by
   have Y2 := HB2.out.keep hV HB2.out.lt; have Y3 := HB3.out.keep hV HB3.out.lt; have hA2 := (hA.keep hbW).keep hV; have hB2 := (hB.keep hbW).keep hV; have hd : Below V'.heap.size V' V'.drew := brf.drew; refine ⟨A, c, B, d, by rw [hx, hna, hnb], NW.keep ?_ hd, NW.keep ?_ hd, Below.drew ?_⟩
   ·rcases hor with rfl | rfl
    ·exact (((hA2.far (hA2.off Y2) _ _).far (hA2.off Y2) _ _).far (hA2.off Y3) _ _).far (hA2.off Y3) _ _
    ·exact (((hA2.far (hA2.off Y3) _ _).far (hA2.off Y3) _ _).far (hA2.off Y2) _ _).far (hA2.off Y2) _ _
   ·rcases hor with rfl | rfl
    ·exact (((hB2.far (hB2.off Y2) _ _).far (hB2.off Y2) _ _).far (hB2.off Y3) _ _).far (hB2.off Y3) _ _
    ·exact (((hB2.far (hB2.off Y3) _ _).far (hB2.off Y3) _ _).far (hB2.off Y2) _ _).far (hB2.off Y2) _ _
   ·rcases hor with rfl | rfl <;> exact below_far (below_far (below_far (below_far (below_all hbW hV) (by omega) _ _) (by omega) _ _) (by omega) _ _) (by omega) _ _)
  obtain ⟨x0, x1, _, _⟩ := B0.two; obtain ⟨y0, y1, _, _⟩ := B1.two; have n1 : (w.heap.size + 1 + 1 = w.heap.size + 1 + 1 + 1) = False := eq_false (by omega); have n2 : (w.heap.size + 1 + 1 + 1 = w.heap.size + 1 + 1) = False := eq_false (by omega); have m0 : (w.heap.size = w.heap.size + 1 + 1) = False := eq_false (by omega); have m1 : (w.heap.size + 1 + 1 = w.heap.size) = False := eq_false (by omega); have m2 : (w.heap.size = w.heap.size + 1 + 1 + 1) = False := eq_false (by omega); have m3 : (w.heap.size + 1 + 1 + 1 = w.heap.size) = False := eq_false (by omega); have m4 : (w.heap.size + 1 = w.heap.size + 1 + 1) = False := eq_false (by omega); have m5 : (w.heap.size + 1 + 1 = w.heap.size + 1) = False := eq_false (by omega); have m6 : (w.heap.size + 1 = w.heap.size + 1 + 1 + 1) = False := eq_false (by omega); have m7 : (w.heap.size + 1 + 1 + 1 = w.heap.size + 1) = False := eq_false (by omega)
  generalize RetZ2 z 1 w = Q at *; clear hW hbW B0 B1 B2 B3 hA hB hx hna hnb; go_enter Tryz.func47, Tryz.ntmps47; go_upto_region 1 with (fail); rw [HWW.out]
  go_upto_region 2 with (go_at_call 40; refine HO.out.mono ?_; rintro e w1 ⟨rfl, hb1⟩; have HBE := zh hb1; obtain ⟨x0, x1, _, _⟩ := (HB0.out.keep hb1 HB0.out.lt).two; obtain ⟨y0, y1, _, _⟩ := (HB1.out.keep hb1 HB1.out.lt).two; have Y2 := HB2.out.keep hb1 HB2.out.lt; have Y3 := HB3.out.keep hb1 HB3.out.lt; obtain ⟨i0, i1, i2, i3⟩ := Y2.two; obtain ⟨k0, k1, k2, k3⟩ := Y3.two; clear hb1)
  have hbe : Below w1.heap.size w1 w1.drew := brf.drew
  go_region_held3 (fun w' => w'.cell? ⟨w.heap.size, 0, none⟩ = some (.bool x) ∧ w'.cell? ⟨w.heap.size, 1, none⟩ = some (.slice A na c) ∧ w'.cell? ⟨w.heap.size + 1, 0, none⟩ = some (.bool false) ∧ w'.cell? ⟨w.heap.size + 1, 1, none⟩ = some (.slice B nb d))
    (first | exact ⟨keep_cell hbe x0, keep_cell hbe x1, keep_cell hbe y0, keep_cell hbe y1⟩ | go_keep | (dsimp only; refine ⟨?_, ?_, ?_, ?_⟩ <;> go_keep) | (refine ⟨?_, ?_, ?_, ?_⟩ <;> (simp [World.cell?_setCell, m0, m1, m2, m3, m4, m5, m6, m7] <;> first | exact x0 | exact x1 | exact y0 | exact y1)))
    (fail)
  all_goals
    go_wp2; exact bodyPost_ret (v := .tuple #[.agg #[.bool x, .slice A na c], .agg #[.bool false, .slice B nb d]]) (by simp [results, Tryz.results47, go_sem, i0, i1, k0, k1]) rfl (HL.out w1 _ HBE.out (by first | exact .inl rfl | exact .inr rfl))
end
end Go.Proofs.Tg.Iw
