/- Parts of the proof: OF2, IL11, TX4. -/
import Derived.Deep.RegionHeld3
import Derived.Test.YtbgaiceakmmfdaaGreatDoorMMR0
import Derived.Test.YtbgaiceakmmfdaaGreatDoorMMR30
import Derived.Test.YtbgaiceakmmfdaaGreatDoorMMR32
set_option maxHeartbeats 64000000
set_option maxRecDepth 100000
namespace Go.Proofs.Tg.Fi
section
open Go.RowKit Go.Rq Go.Qn Go.Bn Go.Mm Go.Proofs.Tg
theorem blk_three' {V : World} {g : Nat} {a b c a' b' c' : Value} {t : TypeId} (h : Blk V g t #[a, b, c]) : Blk (((V.setCell ⟨g, 0, none⟩ a').setCell ⟨g, 1, none⟩ b').setCell ⟨g, 2, none⟩ c') g t #[a', b', c'] := by
 have := ((h.set 0 a').set 1 b').set 2 c'
 simpa using this
theorem of_gen {S M V : Rat → Prop} {T : World → Prop} (AR : Arith S M V T) (X Y : Option Addr) (cx cy v d : Nat) (xs : List (List Rat)) (ws : List Rat) (w : World) (hX : TRowsAt w X xs) (hY : Txts w Y ws) (ok : OfOkG S M V v d ws xs) (ht : T w) :
    Calls Tryz.prog 9 #[.slice X xs.length cx, .slice Y ws.length cy, .int .i64 (d : Nat)] w (RetFun v d ((mons v d).map (sumTo ws xs xs.length)) w) := by
  obtain ⟨n, hn⟩ := eqx (xs.length); have hwl := ok.lw; have HOK := zh ok; have hn1 := ok.n1; have hn2 := ok.n2; have hv1 := ok.v1; have hv6 := ok.v6; have hd24 := ok.d24; have hfew := ok.few; rw [hn] at hwl hn1 hn2 ⊢; rw [hwl]; have HN := zh hn; have HWL := zh hwl; have HX := zh hX; have HY := zh hY; have HT := zh ht; obtain ⟨W, hW⟩ := eqx (w.alloc (.cells #[.int .i64 0, .int .i64 0, .slice none 0 0] 24))
  have hbW : Below w.heap.size w W := by rw [← hW]; exact bal
  have HB6 : Hid (Blk W w.heap.size 24 #[.int .i64 0, .int .i64 0, .slice none 0 0]) := zh (by rw [← hW]; exact Blk.new _ _ _); have HBW := zh hbW
  have HNU : Hid (Calls Tryz.prog 14 #[.slice Y n cy] W fun e w' => e = .returned (.bool true) ∧ Below W.heap.size W w') := zh (by
   have := AR.numbers Y cy ws W (hY.keep hbW) ok.shw (by omega) (AR.keep _ _ ht hbW)
   rwa [hwl] at this)
  have HWW := zh hW; clear hX hY ht ok hn hwl hW; go_enter Tryz.func9, Tryz.ntmps9; go_upto_region 1 with (fail); rw [HWW.out]; go_wp2_with (fail); refine HNU.out.mono ?_; rintro e w1 ⟨rfl, hb1⟩; have HB1 : Hid (Below W.heap.size W w1) := zh hb1; clear HNU hb1 hbW; go_wp2
  go_loopw [33] (fun s33 wr => ∃ k : Nat, s33 = .int .i64 (k : Nat) ∧ k ≤ n ∧ Hid (Below W.heap.size W wr)) (fun s33 _ => n - (intOf s33).toNat)
  case atStart => exact ⟨0, rfl, Nat.zero_le _, HB1⟩
  case round =>
   clear HB1; obtain ⟨wo, rfl⟩ : ∃ wo : World, wo = wr := ⟨_, rfl⟩; obtain ⟨k, rfl, hk, HB⟩ := hrel
   by_cases hkn : k = n
   ·have e1 : decide ((k : Int) < (n : Int)) = false := dF (by omega); have e1' : decide (k < n) = false := dF (by omega); clear hkn; have f1 : decide ((n : Int) < 1) = false := dF (by omega); have f2 : decide ((16 : Int) < (n : Int)) = false := dF (by omega)
    have hkx : 0 < xs.length := by rw [HN.out]; exact hn1
    obtain ⟨ad, R0, c0, hXe, hc, hT0⟩ := (HX.out.keep (below_all HBW.out HB.out)).at hkx; have hl0 : (xs[0]'hkx).length = v := HOK.out.dim _ (List.getElem_mem _); rw [hl0] at hc; subst hXe
    have hc' : wo.cell? ad = some (.slice R0 v c0) := by simpa [Addr.add] using hc
    clear hT0 hl0 hc; have g1 : decide ((v : Int) < 1) = false := dF (by omega); have g2 : decide ((6 : Int) < (v : Int)) = false := dF (by omega); have HB2 : Hid (Below W.heap.size W wo) := HB; go_wp2
    go_loopw [64] (fun s64 wr => ∃ k : Nat, s64 = .int .i64 (k : Nat) ∧ k ≤ n ∧ Hid (Below W.heap.size W wr)) (fun s64 _ => n - (intOf s64).toNat)
    case atStart => exact ⟨0, rfl, Nat.zero_le _, HB2⟩
    case round =>
     clear HB2 HB hc' e1 e1'; obtain ⟨wi, rfl⟩ : ∃ wi : World, wi = wr := ⟨_, rfl⟩; obtain ⟨k, rfl, hk, HB⟩ := hrel
     by_cases hkn : k = n
     ·have e1 : decide ((k : Int) < (n : Int)) = false := dF (by omega); have e1' : decide (k < n) = false := dF (by omega); clear hkn; have f3 : decide ((d : Int) < 0) = false := dF (by omega); have f4 : decide ((24 : Int) < (d : Int)) = false := dF (by omega); have f5 : decide ((1024 : Int) < ((cnt v d : Nat) : Int)) = false := dF (by omega); have HCO := zh (fun V => count_any v d hv6 hd24 V); have HAL := zh (fun V => all_any v d hv6 hd24 (by omega) V); unfold RetMons at HAL; obtain ⟨L, hL⟩ := eqx (cnt v d); rw [hL] at f5 hfew HCO; have HL := zh hL; clear hL
      go_wp2_with (first
        | (go_at_call 13; with_reducible refine Calls.mono (HCO.out _) ?_; rintro e w2 ⟨rfl, hb2⟩))
      refine (HAL.out _).mono ?_; rintro e w3 ⟨MA, mc, rs, rfl, hOI, hms, hb3⟩
      have hrl : rs.length = L := by rw [← HL.out]; have := congrArg List.length hms; rw [List.length_map] at this; exact this
      rw [hrl]; have hbw3 : Below w.heap.size w w3 := below_all (below_all (below_all HBW.out HB.out) hb2) hb3; have HW3 := zh hbw3; have HOI := zh hOI; have HMS := zh hms; have HRL := zh hrl; have HB63 := zh ((HB6.out.keep (below_all (below_all HB.out hb2) hb3) HB6.out.lt)); have hmk := make_txts L (by omega); clear hOI hms hrl hbw3 hb2 hb3 HCO HAL e1 e1'; go_upto_region 27 with (fail); obtain ⟨W4, hW4⟩ := eqx ((w3.alloc (.cells (madeCells #[.string ⟨#[]⟩] L) 9)).alloc (.cells #[.int .i64 (v : Nat), .int .i64 (d : Nat), .slice (some ⟨w3.heap.size, 0, none⟩) L L] 24))
      have HF4 : Hid (Blk W4 (w3.heap.size + 1) 24 #[.int .i64 (v : Nat), .int .i64 (d : Nat), .slice (some ⟨w3.heap.size, 0, none⟩) L L]) := zh (by
       rw [← hW4]; have := Blk.new (w3.alloc (.cells (madeCells #[.string ⟨#[]⟩] L) 9)) 24 #[.int .i64 (v : Nat), .int .i64 (d : Nat), .slice (some ⟨w3.heap.size, 0, none⟩) L L]
       simpa using this)
      have HV4 : Hid (Blk W4 w3.heap.size 9 (tpart (List.replicate L 0) L 0)) := zh (by
       rw [← hW4, ← tpart_zero]; exact (Blk.new _ _ _).alloc _)
      have HB4 : Hid (Below w3.heap.size w3 W4) := zh (by rw [← hW4]; exact (bal).alloc (by simp) _)
      try rw [hW4]
      clear hW4 hmk; obtain ⟨gv, hgv⟩ := eqx (w3.heap.size); rw [hgv] at HF4 HV4 HB4 ⊢; have HGV := zh hgv; have hf := HF4.out; obtain ⟨x0, x1, x2, y0, y1, y2⟩ := hf.three; clear hgv hf; go_wp2
      go_loopw [117] (fun s117 wr => ∃ k : Nat, s117 = .int .i64 (k : Nat) ∧ k ≤ L ∧ Hid (Blk wr gv 9 (tpart (List.replicate L 0) L k) ∧ Blk wr (gv + 1) 24 #[.int .i64 (v : Nat), .int .i64 (d : Nat), .slice (some ⟨gv, 0, none⟩) L L] ∧ Below gv w3 wr)) (fun s117 _ => L - (intOf s117).toNat)
      case atStart => exact ⟨0, rfl, Nat.zero_le _, zh ⟨HV4.out, HF4.out, HB4.out⟩⟩
      case round =>
       clear HF4 HV4 HB4 x0 x1 x2 y0 y1 y2 f5; obtain ⟨wj, rfl⟩ : ∃ wj : World, wj = wr := ⟨_, rfl⟩; obtain ⟨k, rfl, hk, HST⟩ := hrel; obtain ⟨x0, x1, x2, y0, y1, y2⟩ := HST.out.2.1.three
       by_cases hkn : k = L
       ·have e1 : decide ((k : Int) < (L : Int)) = false := dF (by omega); have e1' : decide (k < L) = false := dF (by omega); have HKL := zh hkn; clear hkn; go_wp2; have hml : (mons v d).length = L := HL.out; have HML := zh hml
        have HZ : Hid (Blk wj gv 9 (((mons v d).map (sumTo ws xs 0)).map vq).toArray) := zh (by
         have h1 := HST.out.1; rw [HKL.out, tpart_all (by simp)] at h1
         have h2 : (mons v d).map (sumTo ws xs 0) = List.replicate L 0 := by
          rw [← hml, ← List.map_const']
          rfl
         rw [h2]; exact h1)
        have HV0 : Hid (Blk wj gv 9 (((mons v d).map (sumTo ws xs 0)).map vq).toArray ∧ Blk wj (gv + 1) 24 #[.int .i64 (v : Nat), .int .i64 (d : Nat), .slice (some ⟨gv, 0, none⟩) L L] ∧ Below gv w3 wj) := zh ⟨HZ.out, HST.out.2.1, HST.out.2.2⟩; clear HZ hml
        go_loopw [127] (fun s127 wr => ∃ k : Nat, s127 = .int .i64 (k : Nat) ∧ k ≤ n ∧ Hid (Blk wr gv 9 (((mons v d).map (sumTo ws xs k)).map vq).toArray ∧ Blk wr (gv + 1) 24 #[.int .i64 (v : Nat), .int .i64 (d : Nat), .slice (some ⟨gv, 0, none⟩) L L] ∧ Below gv w3 wr)) (fun s127 _ => n - (intOf s127).toNat)
        case atStart => exact ⟨0, rfl, Nat.zero_le _, HV0⟩
        case round =>
         clear HV0 HST x0 x1 x2 y0 y1 y2 e1 e1'; obtain ⟨wk, rfl⟩ : ∃ wk : World, wk = wr := ⟨_, rfl⟩; obtain ⟨k, rfl, hk, HST⟩ := hrel; obtain ⟨x0, x1, x2, y0, y1, y2⟩ := HST.out.2.1.three
         by_cases hkn : k = n
         ·have e1 : decide ((k : Int) < (n : Int)) = false := dF (by omega); have e1' : decide (k < n) = false := dF (by omega); have HKN := zh hkn; clear hkn; have hB6k : Blk wk w.heap.size 24 #[.int .i64 0, .int .i64 0, .slice none 0 0] := HB63.out.keep (by rw [HGV.out]; exact HST.out.2.2) HB63.out.lt; obtain ⟨z0, z1, z2, r0, r1, r2⟩ := hB6k.three
          have hgw : w.heap.size < gv := by rw [← HGV.out]; exact HB63.out.lt
          have HBK := zh (HW3.out.trans (HST.out.2.2.mono (by omega))); have HB6K := zh hB6k; clear hB6k; go_wp2; obtain ⟨p0, p1, p2, _⟩ := (blk_three' (a' := .int .i64 (v : Nat)) (b' := .int .i64 (d : Nat)) (c' := .slice (some ⟨gv, 0, none⟩) L L) HB6K.out).three; refine bodyPost_ret (v := .tuple #[.agg #[.int .i64 (v : Nat), .int .i64 (d : Nat), .slice (some ⟨gv, 0, none⟩) L L], .int .i64 0]) (by simp [results, Tryz.results9, go_sem, p0, p1, p2]) rfl ⟨some ⟨gv, 0, none⟩, ?_, ?_, ?_⟩
          ·rw [List.length_map, HML.out]
          ·rw [← HKN.out]; exact txts_of (((HST.out.1.far (by simp; omega) _).far (by simp; omega) _).far (by simp; omega) _)
          ·exact below_far (below_far (below_far HBK.out (Nat.le_refl _) _ _) (Nat.le_refl _) _ _) (Nat.le_refl _) _ _
         ·have hkl : k < n := by omega
          have e1 : decide ((k : Int) < (n : Int)) = true := dT (by omega); have e1' : decide (k < n) = true := dT hkl
          have q0 : (0 : Int) ≤ (k : Int) := by omega
          have q1 : (k : Int) < (n : Int) := by omega
          have hkx2 : k < xs.length := by rw [HN.out]; exact hkl
          have hb3k : Below w.heap.size w wk := HW3.out.trans (by rw [← HGV.out] at *; exact HST.out.2.2.mono HW3.out.size); have HBK := zh hb3k; obtain ⟨ad2, R2, c2, hXe2, hc2, hT2⟩ := (HX.out.keep hb3k).at hkx2
          injection hXe2 with hXe2
          subst hXe2; have hl2 : (xs[k]'hkx2).length = v := HOK.out.dim _ (List.getElem_mem _); have HPQ := zh (pows_gen AR R2 c2 d (xs[k]'hkx2) wk hT2 (HOK.out.shx _ (List.getElem_mem _)) (by omega) (by omega) (AR.keep _ _ HT.out hb3k)); unfold RetPows at HPQ; have HXD : Hid (xs.getD k [] = xs[k]'hkx2) := zh (by simp [hkx2]); obtain ⟨x, hx⟩ := eqx (xs[k]'hkx2); rw [hx] at hl2 HPQ HXD hc2; rw [hl2] at HPQ hc2; have HL2 := zh hl2; clear hkn hl2 hT2 hx hb3k; go_wp2_with (fail); refine HPQ.out.mono ?_; rintro e w5 ⟨gp, rows, rfl, hP, hb5⟩; have hgk : gv + 1 < wk.heap.size := HST.out.2.1.lt
          have HV5 : Hid (PowsB wk.heap.size w5 gp d x rows ∧ Blk w5 gv 9 ((vals (sumTo ws xs k) (sumTo ws xs (k + 1)) (mons v d) 0).map vq).toArray ∧ Blk w5 (gv + 1) 24 #[.int .i64 (v : Nat), .int .i64 (d : Nat), .slice (some ⟨gv, 0, none⟩) L L] ∧ Below gv w3 w5) := zh (by
           refine ⟨hP, ?_, HST.out.2.1.keep hb5 HST.out.2.1.lt, ?_⟩
           ·rw [vals_zero]; exact HST.out.1.keep hb5 HST.out.1.lt
           ·exact HST.out.2.2.trans (hb5.mono (by omega)))
          clear hP HPQ x0 x1 x2 y0 y1 y2 hc2; have HP0 := zh hb5; clear hb5; go_wp2
          go_loopw [137] (fun s137 wr => ∃ i : Nat, s137 = .int .i64 (i : Nat) ∧ i ≤ L ∧ Hid (PowsB wk.heap.size wr gp d x rows ∧ Blk wr gv 9 ((vals (sumTo ws xs k) (sumTo ws xs (k + 1)) (mons v d) i).map vq).toArray ∧ Blk wr (gv + 1) 24 #[.int .i64 (v : Nat), .int .i64 (d : Nat), .slice (some ⟨gv, 0, none⟩) L L] ∧ Below gv w3 wr)) (fun s137 _ => L - (intOf s137).toNat)
          case atStart => exact ⟨0, rfl, Nat.zero_le _, HV5⟩
          case round =>
           clear HV5 HST; obtain ⟨wl, rfl⟩ : ∃ wl : World, wl = wr := ⟨_, rfl⟩; obtain ⟨i, rfl, hi, HST⟩ := hrel
           by_cases hiL : i = L
           ·have e2 : decide ((i : Int) < (L : Int)) = false := dF (by omega); have e2' : decide (i < L) = false := dF (by omega); have HIL := zh hiL; clear hiL; go_wp2; go_roundw
            case rel =>
             refine ⟨k + 1, by go_num, by omega, zh ⟨?_, HST.out.2.2⟩⟩; have h := HST.out.2.1; rw [HIL.out, ← HML.out, vals_all] at h; exact h
            case measure => simp [intOf]; omega
           ·have hil : i < L := by omega
            have e2 : decide ((i : Int) < (L : Int)) = true := dT (by omega); have e2' : decide (i < L) = true := dT hil
            have r0 : (0 : Int) ≤ (i : Int) := by omega
            have r1 : (i : Int) < (L : Int) := by omega
            have him : i < (mons v d).length := by rw [HML.out]; exact hil
            have hir : i < rs.length := by rw [HRL.out]; exact hil
            obtain ⟨am, hAM, hcm, hIm⟩ := (HOI.out.keep (by rw [HGV.out]; exact HST.out.2.2.2)).lists hir
            have hme : rs[i].l = (mons v d)[i] := by
             have h1 : (rs.map IRow.l)[i]? = (mons v d)[i]? := by rw [HMS.out]
             simpa [hir, him] using h1
            have hmm : (mons v d)[i] ∈ mons v d := List.getElem_mem _; rw [hme] at hcm hIm; obtain ⟨mo, hmo⟩ := eqx ((mons v d)[i]); have HMO : Hid (∃ h : i < (mons v d).length, (mons v d)[i] = mo) := zh ⟨him, hmo⟩; rw [hmo] at hcm hIm hmm; obtain ⟨hmol, hmob⟩ := mons_mem hmm; rw [hmol] at hcm; subst hAM; have HMM := zh hmm; have HMOL := zh hmol; have HMOB := zh hmob; have HIM := zh hIm; have hb3l : Below w.heap.size w wl := HW3.out.trans (HST.out.2.2.2.mono (by have := HW3.out.size; have := HGV.out; omega)); have HBL := zh hb3l; obtain ⟨aw, hYe, hcw⟩ := Txts.at (HY.out.keep hb3l) (k := k) (by rw [HWL.out]; exact hkl); subst hYe
            have hwk : k < ws.length := by rw [HWL.out]; exact hkl
            obtain ⟨U0, hU0⟩ := eqx (qtx (ws[k]'hwk)); rw [hU0] at hcw
            have HU0 : Hid (U0 = qtx (tmTo (ws.getD k 0) x mo 0)) := zh (by
             rw [← hU0]; unfold tmTo
             simp [hwk])
            generalize rs[i].A = mA at *; generalize rs[i].c = mC at *; clear hmo hme hmm hmol hmob hIm hb3l hU0 hiL him hir; have HBZ : Hid (Below wl.heap.size wl wl) := zh brf; go_wp2
            go_loopw [24, 148] (fun s24 s148 wr => ∃ (j : Nat) (U : ByteArray), s24 = .string U ∧ s148 = .int .i64 (j : Nat) ∧ j ≤ v ∧ Hid (U = qtx (tmTo (ws.getD k 0) x mo j)) ∧ Hid (Below wl.heap.size wl wr)) (fun _ s148 _ => v - (intOf s148).toNat)
            case atStart => exact ⟨0, U0, rfl, rfl, Nat.zero_le _, HU0, HBZ⟩
            case round =>
             clear HU0 HBZ hcm hcw; obtain ⟨wm, rfl⟩ : ∃ wm : World, wm = wr := ⟨_, rfl⟩; obtain ⟨j, U, rfl, rfl, hj, HU, HBM⟩ := hrel
             by_cases hjv : j = v
             ·have e3 : decide ((j : Int) < (v : Int)) = false := dF (by omega); have e3' : decide (j < v) = false := dF (by omega); have HJV := zh hjv; clear hjv; have hFB := HST.out.2.2.1.keep HBM.out HST.out.2.2.1.lt; have hVB := HST.out.2.1.keep HBM.out HST.out.2.1.lt; obtain ⟨x0, x1, x2, y0, y1, y2⟩ := hFB.three; obtain ⟨him2, hmoe⟩ := HMO.out
              have hcv : wm.cell? ⟨gv, i, none⟩ = some (.string (qtx (sumTo ws xs k mo))) := by
               rw [hVB.cell i]; have := vals_at (sumTo ws xs k) (sumTo ws xs (k + 1)) (mons v d) him2; rw [hmoe] at this; simp [this, vq]
              have fv := hVB.frozen i; have HTM : Hid (tmTo (ws.getD k 0) x mo j = tm (ws.getD k 0) (xs.getD k []) mo) := zh (by unfold tm; rw [HXD.out, HJV.out, HMOL.out])
              have HAD := zh (AR.add (sumTo ws xs k mo) (tmTo (ws.getD k 0) x mo j) (HOK.out.shs k (by rw [HN.out]; omega) mo HMM.out) (by
               have := HOK.out.sht k (by rw [HN.out]; exact hkl) mo HMM.out j (by omega)
               rwa [HXD.out] at this) (by rw [HTM.out]; exact HOK.out.shs (k + 1) (by rw [HN.out]; omega) mo HMM.out))
              have HSU : Hid (sumTo ws xs k mo + tmTo (ws.getD k 0) x mo j = sumTo ws xs (k + 1) mo) := zh (by rw [HTM.out]; rfl); rw [HSU.out, ← HU.out] at HAD; unfold RetTx at HAD; have HADW : Hid (∀ V, Below wm.heap.size wm V → Calls Tryz.prog 18 #[.string (qtx (sumTo ws xs k mo)), .string U] V fun e w' => e = .returned (.string (qtx (sumTo ws xs (k + 1) mo))) ∧ Below V.heap.size V w') := zh (fun V h => HAD.out V (AR.keep _ _ HT.out (below_all (below_all HBL.out HBM.out) h))); have HSET : Hid ((vals (sumTo ws xs k) (sumTo ws xs (k + 1)) (mons v d) i).set i (sumTo ws xs (k + 1) mo) = vals (sumTo ws xs k) (sumTo ws xs (k + 1)) (mons v d) (i + 1)) := zh (by rw [← vals_set _ _ _ him2, hmoe]); obtain ⟨V1, hV1⟩ := eqx (qtx (sumTo ws xs k mo)); obtain ⟨V2, hV2⟩ := eqx (qtx (sumTo ws xs (k + 1) mo)); rw [hV1] at hcv HADW; rw [hV2] at HADW; have HV2 := zh hV2; have HFB := zh hFB
              have HVB := zh hVB; have hbe : Below wm.heap.size wm wm.drew := brf.drew; have hvl := hVB.lt; clear hV1 hV2 hFB hVB HAD him2 hmoe; go_wp2
              go_region_with
                (first | (go_at_call 18; with_reducible refine Calls.mono (HADW.out _ (by assumption)) ?_; rintro e w7 ⟨rfl, hb7⟩; have hbe := below_all hbe hb7; have x2 := keep_cell hbe x2; have Y := HVB.out.keep hbe HVB.out.lt; have hcv := keep_cell hbe hcv; have fv := Y.frozen i))
              all_goals
                go_wp2; go_roundw
                case rel =>
                 refine ⟨i + 1, by go_num, by omega, zh ⟨?_, ?_, ?_, ?_⟩⟩
                 ·exact ((HST.out.1.keep HBM.out).keep hbe).far (by omega) _ _
                 ·rw [← HSET.out]; have h := txts_set Y i (sumTo ws xs (k + 1) mo); rw [HV2.out] at h; exact h
                 ·exact (HFB.out.keep hbe HFB.out.lt).far (by simp) _
                 ·exact below_far (HST.out.2.2.2.trans ((HBM.out.trans (hbe.mono HBM.out.size)).mono (by have := HST.out.2.1.lt; omega))) (Nat.le_refl _) _ _
                case measure => simp [intOf]; omega
             ·have hjl : j < v := by omega
              have e3 : decide ((j : Int) < (v : Int)) = true := dT (by omega); have e3' : decide (j < v) = true := dT hjl
              have t0 : (0 : Int) ≤ (j : Int) := by omega
              have t1 : (j : Int) < (v : Int) := by omega
              have hjm : j < mo.length := by rw [HMOL.out]; exact hjl
              have hjx : j < x.length := by rw [HL2.out]; exact hjl
              obtain ⟨ae, hAE, hce⟩ := Ints.at (HIM.out.keep HBM.out) hjm; subst hAE; obtain ⟨ej, hej⟩ : ∃ e : Nat, mo[j] = (e : Int) := ⟨(mo[j]).toNat, by have := (HMOB.out _ (List.getElem_mem hjm)).1; omega⟩
              have hed : ej ≤ d := by have := (HMOB.out _ (List.getElem_mem hjm)).2; omega
              rw [hej] at hce; obtain ⟨Rp, cp, hcp, hTp⟩ := (HST.out.1.keep HBM.out).at hjx; obtain ⟨hep, hpe⟩ := pw_at d (x[j]'hjx) hed; obtain ⟨ap, hAP, hcq⟩ := Txts.at hTp hep; rw [hpe] at hcq; subst hAP
              have HEJ : Hid (tmTo (ws.getD k 0) x mo (j + 1) = tmTo (ws.getD k 0) x mo j * (x[j]'hjx) ^ ej) := zh (by
               show tmTo (ws.getD k 0) x mo j * (x.getD j 0) ^ ((mo.getD j 0).toNat) = _
               have h1 : x.getD j 0 = x[j]'hjx := by simp [hjx]
               have h2 : (mo.getD j 0).toNat = ej := by simp [hjm, hej]
               rw [h1, h2])
              have hxm : x ∈ xs := by rw [← HXD.out]; simp [hkx2]
              have HM1 := zh (AR.mul (tmTo (ws.getD k 0) x mo j) ((x[j]'hjx) ^ ej) (by
               have := HOK.out.sht k (by rw [HN.out]; exact hkl) mo HMM.out j (by omega); rw [HXD.out] at this
               exact this) ((HOK.out.shx x hxm _ (List.getElem_mem _)).2 ej hed) wm (AR.keep _ _ HT.out (below_all HBL.out HBM.out)))
              rw [← HU.out, ← HEJ.out] at HM1; unfold RetTx at HM1; obtain ⟨U2, hU2⟩ := eqx (qtx (tmTo (ws.getD k 0) x mo (j + 1))); obtain ⟨V2, hV2⟩ := eqx (qtx ((x[j]'hjx) ^ ej)); rw [hU2, hV2] at HM1; rw [hV2] at hcq; have HU2 := zh hU2
              have s0 : (0 : Int) ≤ (ej : Int) := by omega
              have s1 : (ej : Int) < (d : Int) + 1 := by omega
              clear hU2 hV2 hpe hTp hej hjv; go_wp2_with (fail); refine HM1.out.mono ?_; rintro e w7 ⟨rfl, hb7⟩; go_wp2; go_roundw
              case rel => exact ⟨j + 1, U2, rfl, by go_num, by omega, zh HU2.out.symm, zh (below_all HBM.out hb7)⟩
              case measure => simp [intOf]; omega
       ·have hkl : k < L := by omega
        have e1 : decide ((k : Int) < (L : Int)) = true := dT (by omega); have e1' : decide (k < L) = true := dT hkl
        have q0 : (0 : Int) ≤ (k : Int) := by omega
        have q1 : (k : Int) < (L : Int) := by omega
        have hB := HST.out.1; obtain ⟨u, hu⟩ := tpart_at (qs := List.replicate L 0) (by simp) hkl
        have c0 : wj.cell? ⟨gv, k, none⟩ = some u := by rw [hB.cell k]; exact hu
        have f0 := hB.frozen k
        have HSET : Hid ((tpart (List.replicate L 0) L k).setIfInBounds k (.string ⟨#[48]⟩) = tpart (List.replicate L 0) L (k + 1)) := zh (by
         have := tpart_set (qs := List.replicate L 0) (by simp) hkl; rw [List.getElem_replicate, qtx_zero] at this
         exact this)
        clear hu hB hkn; go_wp2; go_roundw
        case rel =>
         refine ⟨k + 1, by go_num, by omega, zh ⟨?_, HST.out.2.1.far (by simp) _, below_far HST.out.2.2 (Nat.le_refl _) _ _⟩⟩; rw [← HSET.out]; exact HST.out.1.set _ _
        case measure => simp [intOf]; omega
     ·have hkl : k < n := by omega
      have e1 : decide ((k : Int) < (n : Int)) = true := dT (by omega); have e1' : decide (k < n) = true := dT hkl
      have hkx2 : k < xs.length := by rw [HN.out]; exact hkl
      obtain ⟨ad2, R2, c2, hXe2, hc2, hT2⟩ := (HX.out.keep (below_all HBW.out HB.out)).at hkx2
      injection hXe2 with hXe2
      subst hXe2; have hl2 : (xs[k]'hkx2).length = v := HOK.out.dim _ (List.getElem_mem _); rw [hl2] at hc2
      have q0 : (0 : Int) ≤ (k : Int) := by omega
      have q1 : (k : Int) < (n : Int) := by omega
      clear hkn hl2 hT2; go_wp2; go_roundw
      case rel => exact ⟨k + 1, by go_num, by omega, HB⟩
      case measure => simp [intOf]; omega
   ·have hkl : k < n := by omega
    have e1 : decide ((k : Int) < (n : Int)) = true := dT (by omega); have e1' : decide (k < n) = true := dT hkl
    have hkx2 : k < xs.length := by rw [HN.out]; exact hkl
    obtain ⟨ad2, R2, c2, hXe2, hc2, hT2⟩ := (HX.out.keep (below_all HBW.out HB.out)).at hkx2; subst hXe2; have HNU := zh (AR.numbers R2 c2 (xs[k]'hkx2) wo hT2 (fun q hq => (HOK.out.shx _ (List.getElem_mem _) q hq).1) (by rw [HOK.out.dim _ (List.getElem_mem _)]; omega) (AR.keep _ _ HT.out (below_all HBW.out HB.out)))
    have q0 : (0 : Int) ≤ (k : Int) := by omega
    have q1 : (k : Int) < (n : Int) := by omega
    generalize (xs[k]'hkx2).length = l at *; clear hkn hT2; go_wp2_with (fail); refine HNU.out.mono ?_; rintro e w5 ⟨rfl, hb5⟩; go_wp2; go_roundw
    case rel => exact ⟨k + 1, by go_num, by omega, zh (below_all HB.out hb5)⟩
    case measure => simp [intOf]; omega
theorem of_any (X Y : Option Addr) (cx cy v d : Nat) (xs : List (List Rat)) (ws : List Rat) (w : World) (hX : TRowsAt w X xs) (hY : Txts w Y ws) (ok : OfOk v d ws xs) (ht : PT w) :
    Calls Tryz.prog 9 #[.slice X xs.length cx, .slice Y ws.length cy, .int .i64 (d : Nat)] w (RetFun v d ((mons v d).map (sumTo ws xs xs.length)) w) :=
  of_gen arith_sh X Y cx cy v d xs ws w hX hY ok ht
end
end Go.Proofs.Tg.Fi
namespace Go.Proofs.Tg
section
open Go.RowKit Go.Qn Go.Gr
theorem valid_w (s : ByteArray) (w : World) (hs : s.size ≤ 64) (hT : Tab w) :
    Calls Tryz.prog 23 #[.string s] w fun e w' => e = .returned (.bool (rd s.data.toList).isSome) ∧ Below w.heap.size w w' := by
  have HL := zh (len_size s); have HT := zh hT; obtain ⟨bo, hbo⟩ := eqx ((rd s.data.toList).isSome); rw [hbo]; have HBO := zh hbo; clear hT hbo; go_enter Tryz.func23, Tryz.ntmps23; go_wp2_with (fail); refine (rshort_w s _ hs).mono ?_; rintro e w1 ⟨hb1, rfl | ⟨b, n, d, hr, _, _, rfl⟩⟩; rotate_left
  ·obtain rfl : bo = true := by rw [← HBO.out, hr]; rfl
   clear hr; generalize sg b n = z; go_wp2; go_ret; exact ⟨rfl, hb1.alloc hb1.size _⟩
  have hbA : Below w.heap.size w (w1.alloc (.cells #[.int .i64 0, .int .i64 0] 62)) := hb1.alloc hb1.size _; clear hb1; go_upto_region 4 with (fail); generalize w1.alloc (.cells #[.int .i64 0, .int .i64 0] 62) = W1 at *; go_wp2_with (fail); refine (split_any s W1 hs).mono ?_; rintro e w2 ⟨b, num, den, ok, rfl, HS, hb2⟩; have hc := splitis_cases HS
  have hnl : num.length ≤ 64 := by have := HS.1; rw [HL.out] at this; omega
  have hdl : den.length ≤ 64 := by have := HS.2.1; rw [HL.out] at this; omega
  have hbB := below_all hbA hb2; clear HS hbA hb2; go_upto_region 5 with (fail); obtain ⟨W2, hW2⟩ := eqx (w2.alloc (.cells #[.bool b, .string (bs num), .string (bs den)] 83))
  have C4 : Blk W2 w2.heap.size 83 #[.bool b, .string (bs num), .string (bs den)] := by rw [← hW2]; exact Blk.new _ _ _
  have hbC : Below w.heap.size w W2 := by rw [← hW2]; exact hbB.alloc hbB.size _
  rw [hW2]; clear hW2 hbB; generalize w2.heap.size = gf at *; obtain ⟨p0, p1, p2, _, _, _⟩ := C4.three
  rcases hc with ⟨rfl, hr⟩ | ⟨rfl, n1, _, rfl, hr⟩ | ⟨rfl, n1, _, _, hdn, m1, v0, v1, hr⟩
  ·obtain rfl : bo = false := by rw [← HBO.out, hr]; rfl
   clear hr; go_wp2; go_ret; exact ⟨rfl, hbC⟩
  ·obtain rfl : bo = true := by rw [← HBO.out, hr]; rfl
   have hbe : (bs []).toList.isEmpty = true := by rw [bs_toList]; rfl
   have hbe' : (bs []).toList = [] := by rw [bs_toList]
   clear hr n1; go_wp2; go_ret; exact ⟨rfl, hbC⟩
  ·have hbe : (bs den).toList.isEmpty = false := by rw [bs_toList]; cases den; exact absurd rfl hdn; rfl
   have hbe' : ¬ (bs den).toList = [] := by rw [bs_toList]; exact hdn
   have hbo : bo = decide (Nat.gcd (val num) (val den) = 1) := by
    rw [← HBO.out, hr]
    by_cases h : Nat.gcd (val num) (val den) = 1
    ·rw [if_pos h, dT h]; rfl
    ·rw [if_neg h, dF h]; rfl
   have HBD := zh hbo; have k1 : (Go.Bw.dg (val num)).length ≤ 64 := Nat.le_trans (Iw.dval_len (numOk_iff.1 n1).1) hnl; have k2 : (Go.Bw.dg (val den)).length ≤ 64 := Nat.le_trans (Iw.dval_len (numOk_iff.1 m1).1) hdl
   have K1 : Hid (∀ V, Below W2.heap.size W2 V → Calls Tryz.prog 38 #[.string (bs num)] V (Iw.RetI false (val num) V)) := zh (fun V _ => by
    have := Iw.parse_w (bs num) V (by rw [bs_size]; omega) (by rw [bs_data]; exact (numOk_iff.1 n1).1)
    rwa [bs_data] at this)
   have K2 : Hid (∀ V, Below W2.heap.size W2 V → Calls Tryz.prog 38 #[.string (bs den)] V (Iw.RetI false (val den) V)) := zh (fun V _ => by
    have := Iw.parse_w (bs den) V (by rw [bs_size]; omega) (by rw [bs_data]; exact (numOk_iff.1 m1).1)
    rwa [bs_data] at this)
   have K3 : Hid (∀ V A B c d, Below W2.heap.size W2 V → Iw.NW V A c (val num) → Iw.NW V B d (val den) → Calls Tryz.prog 39 #[.agg #[.bool false, .slice A (Go.Bw.dg (val num)).length c], .agg #[.bool false, .slice B (Go.Bw.dg (val den)).length d]] V (Iw.RetI false (Nat.gcd (val num) (val den)) V)) := zh (fun V A B c d hV hA hB =>
    Iw.igcd_w A B c d _ _ false false V hA hB (by omega) (by omega) (by omega) ((HT.out.below hbC HT.out.1).below hV (Nat.lt_of_lt_of_le HT.out.1 hbC.size)))
   have K4 : Hid (∀ V A c, Iw.NW V A c (Nat.gcd (val num) (val den)) → Calls Tryz.prog 40 #[.agg #[.bool false, .slice A (Go.Bw.dg (Nat.gcd (val num) (val den))).length c]] V fun e w' => e = .returned (.bool bo) ∧ Below V.heap.size V w') := zh (fun V A c hA => by
    rw [HBD.out]
    exact Iw.isone_w A c _ V hA)
   unfold Iw.RetI at K1 K2 K3; clear hr hbo HBD n1 m1 v0 v1 hdn k1 k2 HBO hnl hdl HL HT; generalize val num = a at *; generalize val den = bb at *; generalize Nat.gcd a bb = G at *; generalize (Go.Bw.dg a).length = la at *; generalize (Go.Bw.dg bb).length = lb at *; generalize (Go.Bw.dg G).length = lg at *; go_upto_region 7 with (fail); have hbw : Below W2.heap.size W2 W2.drew := brf.drew
   go_region_held3 (fun w' => w'.cell? ⟨gf, 1, none⟩ = some (.string (bs num)) ∧ w'.cell? ⟨gf, 2, none⟩ = some (.string (bs den))) (first | go_keep | exact ⟨keep_cell hbw p1, keep_cell hbw p2⟩)
     (first
       | (go_at_call 39; with_reducible refine Calls.mono (K3.out _ _ _ _ _ (by assumption) (by assumption) (by assumption)) ?_; rintro e w' ⟨A3, c3, rfl, hN3, hb9⟩; have hbw := below_all hbw hb9; clear hb9)
       | (go_at_call 40; with_reducible refine Calls.mono (K4.out _ _ _ (by assumption)) ?_; rintro e w' ⟨rfl, hb9⟩; have hbw := below_all hbw hb9; clear hb9)
       | (go_at_call 38; with_reducible refine Calls.mono (K1.out _ (by assumption)) ?_; rintro e w' ⟨A1, c1, rfl, hN1, hb9⟩; have hbw := below_all hbw hb9; (try have hN2 := hN2.keep hb9); clear hb9)
       | (go_at_call 38; with_reducible refine Calls.mono (K2.out _ (by assumption)) ?_; rintro e w' ⟨A2, c2, rfl, hN2, hb9⟩; have hbw := below_all hbw hb9; (try have hN1 := hN1.keep hb9); clear hb9))
   all_goals
     go_wp2; go_ret; exact ⟨rfl, below_all hbC hbw⟩
def okT (s : ByteArray) : Bool := (rd s.data.toList).isSome
theorem numbers_w (A : Option Addr) (c : Nat) (ss : List ByteArray) (w : World) (hA : Sl w A ss.length 1 (ss.map Value.string)) (hs : ∀ s ∈ ss, s.size ≤ 64) (hn : ss.length ≤ 1000000) (hT : Tab w) :
    Calls Tryz.prog 14 #[.slice A ss.length c] w fun e w' => e = .returned (.bool (ss.all okT)) ∧ Below w.heap.size w w' := by
  have HV : Hid (∀ s ∈ ss, ∀ V, Below w.heap.size w V → Calls Tryz.prog 23 #[.string s] V fun e w' => e = .returned (.bool (okT s)) ∧ Below V.heap.size V w') := zh (fun s h V hV => valid_w s V (hs s h) (hT.below hV hT.1)); obtain ⟨n, hn'⟩ := eqx (ss.length); have HA := zh hA; obtain ⟨r, hr⟩ := eqx (ss.all okT); rw [hr]; have HR := zh hr; rw [hn'] at hn ⊢; have HN := zh hn'; clear hs hA hn' hr hT; go_enter Tryz.func14, Tryz.ntmps14; go_wp2
  go_loopw [7] (fun s7 wr => ∃ k : Nat, s7 = .int .i64 (k : Nat) ∧ k ≤ n ∧ Hid (Below w.heap.size w wr ∧ ∀ s ∈ ss.take k, okT s = true)) (fun s7 _ => n - (intOf s7).toNat)
  case atStart => exact ⟨0, rfl, Nat.zero_le _, zh ⟨Below.refl _ _, by simp⟩⟩
  case round =>
   obtain ⟨wo, rfl⟩ : ∃ wo : World, wo = wr := ⟨_, rfl⟩; obtain ⟨k, rfl, hk, HB⟩ := hrel
   by_cases hkn : k = n
   ·have e1 : decide ((k : Int) < (n : Int)) = false := dF (by omega); have e1' : decide (k < n) = false := dF (by omega)
    obtain rfl : r = true := by
     rw [← HR.out, List.all_eq_true]; have := HB.out.2
     rwa [List.take_of_length_le (by rw [HN.out]; omega)] at this
    clear hkn; go_wp2; go_ret; exact ⟨rfl, HB.out.1⟩
   ·have hkl : k < n := by omega
    have hks : k < ss.length := by rw [HN.out]; exact hkl
    have e1 : decide ((k : Int) < (n : Int)) = true := dT (by omega); have e1' : decide (k < n) = true := dT hkl; obtain ⟨S, hS⟩ := eqx (ss[k])
    have hSm : S ∈ ss := by rw [← hS]; exact List.getElem_mem hks
    obtain ⟨ad, rfl, hc0⟩ := Sl.at1 (HA.out.keep HB.out.1) (k := k) (by simpa using hks)
    have hc : wo.cell? (ad.add k) = some (.string S) := by simpa [hS] using hc0
    have HC := zh (HV.out S hSm wo HB.out.1); have HT : Hid (ss.take (k + 1) = ss.take k ++ [S]) := zh (by rw [List.take_succ_eq_append_getElem hks, hS]); clear hkn hc0 hS
    cases hok : okT S with
    | true =>
      rw [hok] at HC; have HOK := zh hok; clear hok; go_wp2_with (fail); refine HC.out.mono ?_; rintro e w2 ⟨rfl, hb2⟩; go_wp2; go_roundw
      case rel =>
       refine ⟨k + 1, by go_num, by omega, zh ⟨below_all HB.out.1 hb2, ?_⟩⟩; rw [HT.out]; intro s h
       rcases List.mem_append.1 h with h | h
       ·exact HB.out.2 s h
       ·simp at h; subst h; exact HOK.out
      case measure => simp [intOf]; omega
    | false =>
      rw [hok] at HC
      obtain rfl : r = false := by
       rw [← HR.out]; exact List.all_eq_false.2 ⟨S, hSm, by simp [hok]⟩
      clear hok; go_wp2_with (fail); refine HC.out.mono ?_; rintro e w2 ⟨rfl, hb2⟩; go_wp2; go_ret; exact ⟨rfl, below_all HB.out.1 hb2⟩
end
end Go.Proofs.Tg
