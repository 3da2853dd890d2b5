/- Parts of the proof: JB3, JB4, JB5. -/
import Derived.Test.YtbgaiceakmmfdaaGreatDoorMMR0
import Derived.Test.YtbgaiceakmmfdaaGreatDoorMMR13
import Derived.Test.YtbgaiceakmmfdaaGreatDoorMMR15
import Derived.Test.YtbgaiceakmmfdaaGreatDoorMMR18
set_option maxHeartbeats 64000000
set_option maxRecDepth 100000
namespace Go.Proofs.Tg.Iw
section
open Go.RowKit Go.Bw Go.Gr Go.Proofs.Tg
open Go.Proofs.Tg.Fi (TxS TxR Buf RetTa RetBuf txs_append byte_src PT buint_any)
def z20 : Array Value := Array.replicate 20 (.int .u8 0)
theorem alloc20 (w : World) : w.alloc (.cells #[.int .u8 0, .int .u8 0, .int .u8 0, .int .u8 0, .int .u8 0, .int .u8 0, .int .u8 0, .int .u8 0, .int .u8 0, .int .u8 0, .int .u8 0, .int .u8 0, .int .u8 0, .int .u8 0, .int .u8 0, .int .u8 0, .int .u8 0, .int .u8 0, .int .u8 0, .int .u8 0] 175) = w.alloc (.cells z20 175) := rfl
theorem bool_or (b : Bool) : b = true ∨ b = false := by cases b <;> simp
theorem len20 : Tryz.prog.arrayLen 175 = 20 := by kernel_rfl
theorem slice20 (g : Nat) (W : World) : (Instr.sliceAt 175 (.pointer (some ⟨g, 0, none⟩)) none (some (.int .i64 0)) none).run Tryz.prog W = .ok (.slice (some ⟨g, 0, none⟩) 0 20) W := by
 rw [run_sliceAt_array_h W 175 ⟨g, 0, none⟩ (by simp [Program.arrayLen, Program.elem, Tryz.underlying175]) .i64 0 (by omega) (by rw [len20]; omega)]
 go_simp
theorem apps_zero (A : Option Addr) (c : Nat) (l : List UInt8) (X : Option Addr) (cx Wd : Nat) (w : World) (hT : TxS w A c l) (hW : Wd ≤ 100000) (hl : l.length ≤ 1000000) :
    Calls Tryz.prog 123 #[.slice A l.length c, .slice X 0 cx, .int .i64 (Wd : Nat)] w (RetTa A l (Dt.D 0 Wd) w) := by
  rw [Dt.D_zero]; have HCL := zh (wclone_nil X cx w); obtain ⟨Q, hQ⟩ := eqx (RetTa A l (List.replicate Wd 48) w); have HQ : Hid (∀ A' c' w', TxS w' A' c' (l ++ List.replicate Wd 48) → TxR A w A' w' → Q (.returned (.slice A' (l.length + Wd) c')) w') := zh (fun A' c' w' h1 h2 => by rw [← hQ]; exact ⟨A', c', by rw [List.length_replicate], h1, h2⟩); rw [hQ]; have HT := zh hT; obtain ⟨n, hn⟩ := eqx (l.length); have HN := zh hn; rw [hn] at hl HQ ⊢; clear hQ hT hn; go_enter Tryz.func123, Tryz.ntmps123
  go_upto_region 2 with (go_at_call 84; refine HCL.out.mono ?_; rintro e w1 ⟨R, c', rfl, hb1⟩; have HB1 := zh hb1; clear hb1)
  go_upto_block 0 with (fail); go_wp2
  go_loopw [7, 8] (fun s7 s8 wr => s7 = .slice R 0 c' ∧ s8 = .slice none 0 0 ∧ Hid (wr = w1)) (fun _ _ _ => 0)
  case atStart => exact ⟨rfl, rfl, zh rfl⟩
  case round =>
   obtain ⟨rfl, rfl, HWR⟩ := hrel; have e := HWR.out; subst e; clear HWR; go_upto_region 12 with (fail); rw [alloc20]; have HB2 : Hid (Below w.heap.size w (wr.alloc (.cells z20 175))) := zh (below_all HB1.out (bal)); obtain ⟨gb, hgb⟩ := eqx (wr.heap.size); rw [hgb]; generalize wr.alloc (.cells z20 175) = W2 at *; go_upto_block 4 with (fail); go_wp2
   go_loopw [0, 12, 13] (fun s0 s12 s13 wr => s0 = .slice A n c ∧ s12 = .bool true ∧ s13 = .int .i64 (-1) ∧ Hid (wr = W2)) (fun _ _ _ _ => 0)
   case atStart => exact ⟨rfl, rfl, by go_num, zh rfl⟩
   case round =>
    obtain ⟨rfl, rfl, rfl, HWR⟩ := hrel; have e := HWR.out; subst e; clear HWR; go_upto_region 27 with (fail); go_upto_block 8 with (fail); go_wp2
    go_loopw [0, 82] (fun s0 s82 wr => ∃ (z nl c' : Nat) (A' : Option Addr), s0 = .slice A' nl c' ∧ s82 = .int .i64 (z : Nat) ∧ z ≤ Wd ∧ nl ≤ 1200000 ∧ Hid (nl = n + z) ∧ Hid (TxS wr A' c' (l ++ List.replicate z 48) ∧ TxR A w A' wr)) (fun _ s82 _ => Wd - (intOf s82).toNat)
    case atStart => exact ⟨0, n, c, A, rfl, rfl, Nat.zero_le _, by omega, zh rfl, zh ⟨by simpa using HT.out.keep HB2.out, TxR.of HB2.out⟩⟩
    case round =>
     obtain ⟨wo, rfl⟩ : ∃ wo : World, wo = wr := ⟨_, rfl⟩; obtain ⟨z, nl, c', A', rfl, rfl, hz, hnl, HNL, HM⟩ := hrel
     by_cases hzk : z = Wd
     ·have d1 : decide ((z : Int) < (Wd : Int)) = false := dF (by omega); have d1' : decide (z < Wd) = false := dF (by omega)
      have HR : Hid (Q (.returned (.slice A' nl c')) wo) := zh (by
       have e := HNL.out; subst hzk; rw [e]
       exact HQ.out A' c' wo HM.out.1 HM.out.2)
      clear hzk HNL HM HQ; go_wp2; exact HR.out
     ·have hzl : z < Wd := by omega
      have d1 : decide ((z : Int) < (Wd : Int)) = true := dT (by omega); have d1' : decide (z < Wd) = true := dT hzl
      have hll : (l ++ List.replicate z 48).length = nl := by rw [List.length_append, List.length_replicate, HN.out, HNL.out]
      obtain ⟨A'', c'', w'', hr, hM2, hR2⟩ := txs_zero HM.out.1 48 (by rw [hll]; omega); rw [hll] at hr; have HR : Hid ((Builtin.append_ #[91, 91] 91 #[.slice A' nl c', .slice (some ⟨wo.heap.size, 0, none⟩) 1 1]).run Tryz.prog (wo.alloc (.cells #[.int .u8 48] 5)) = .ok (.slice A'' (nl + 1) c'') w'') := zh hr; have HM2 : Hid (TxS w'' A'' c'' (l ++ List.replicate (z + 1) 48) ∧ TxR A w A'' w'') := zh ⟨by rw [List.replicate_succ', ← List.append_assoc]; exact hM2, HM.out.2.trans hR2⟩; have HNL2 : Hid (nl + 1 = n + (z + 1)) := zh (by have := HNL.out; omega)
      have hnl2 : nl + 1 ≤ 1200000 := by have := HNL.out; omega
      clear hr hM2 hR2 hll HM HNL hzk
      go_wp2_with (at_builtin; refine Fi.wpList_append_run _ rfl _ _ 91 91 rfl _ _ HR.out ?_)
      go_roundw
      case rel => exact ⟨z + 1, nl + 1, c'', A'', rfl, by go_num, by omega, hnl2, HNL2, HM2⟩
      case measure => first | (simp [intOf]; omega) | simp [intOf]
theorem apps_pos (A : Option Addr) (c : Nat) (l : List UInt8) (X : Option Addr) (cx x Wd : Nat) (w : World) (hT : TxS w A c l) (hX : NW w X cx x) (hx : x ≠ 0) (hn : (dg x).length ≤ 1000) (hW : Wd ≤ 100000) (hl : l.length ≤ 1000000) (ht : PT w) (hpa : ∀ ad, A = some ad → 0 < ad.block) :
    Calls Tryz.prog 123 #[.slice A l.length c, .slice X (dg x).length cx, .int .i64 (Wd : Nat)] w (RetTa A l (Dt.D x Wd) w) := by
  have HCL := zh (nclone_any X cx x w hX (by omega)); obtain ⟨Q, hQ⟩ := eqx (RetTa A l (Dt.D x Wd) w); have HQ : Hid (∀ A' c' w' m n, Dt.D x Wd = m → n = l.length + m.length → TxS w' A' c' (l ++ m) → TxR A w A' w' → Q (.returned (.slice A' n c')) w') := zh (fun A' c' w' m n h0 hn h1 h2 => by rw [← hQ, h0, hn]; exact ⟨A', c', rfl, h1, h2⟩); rw [hQ]; have HT := zh hT; have HPT := zh ht; have HPA := zh hpa; have HX0 := zh hx; have HXL := zh hn; obtain ⟨n, hnn⟩ := eqx ((dg x).length); have HNN := zh hnn; rw [hnn] at hn HCL ⊢; obtain ⟨nl0, hnl0⟩ := eqx (l.length); have HN := zh hnl0; rw [hnl0] at hl ⊢; clear hQ hT hnn hnl0 ht hX hx hpa; go_enter Tryz.func123, Tryz.ntmps123
  go_upto_region 2 with (go_at_call 84; refine HCL.out.mono ?_; rintro e w1 ⟨R, cw, rfl, hR, hb1⟩; have HR1 := zh hR; have HB1 := zh hb1; clear hb1 hR)
  obtain ⟨ga, rfl, hP1, hga⟩ := HR1.out (Nat.pos_of_ne_zero HX0.out); have HP1 := zh hP1; have HK0 : Hid (CkM w w1.heap.size ga cw x w1 x [] none 0) := zh ⟨HB1.out, HP1.out, by simp, fun i h => by simp at h, fun h => by simp at h, fun _ => ⟨rfl, rfl⟩, fun h => by simp at h, hga, HP1.out.lt, Nat.le_refl _⟩; clear hP1 HR1 HCL HP1; go_upto_block 0 with (fail); go_wp2
  go_loopw [7, 8] (fun s7 s8 wr => ∃ (y m k cc : Nat) (C : Option Addr), s7 = .slice (some ⟨ga, 0, none⟩) m cw ∧ s8 = .slice C k cc ∧ m ≤ 1000 ∧ k ≤ 1016 ∧ Hid ((dg y).length = m) ∧ Hid (∃ cs, cs.length = k ∧ CkM w w1.heap.size ga cw x wr y cs C cc)) (fun _ s8 _ => 1016 - slen s8)
  case atStart => exact ⟨x, n, 0, 0, none, rfl, rfl, hn, by omega, HNN, zh ⟨[], rfl, HK0.out⟩⟩
  case round =>
   clear HK0; obtain ⟨wo, rfl⟩ : ∃ wo : World, wo = wr := ⟨_, rfl⟩; obtain ⟨y, m, k, cc, C, rfl, rfl, hm, hk, HY, HC⟩ := hrel
   by_cases hm0 : m = 0
   ·subst hm0
    have hm1 : decide ((0 : Int) < ((0 : Nat) : Int)) = false := by decide
    have hm1' : decide (0 < 0) = false := by decide
    obtain ⟨cs, hcs, hCM⟩ := HC.out; have hy0 : y = 0 := len_zero HY.out
    have hk0 : 0 < k := Nat.pos_of_ne_zero fun e => by
     have h1 := hCM.eq; rw [hcs, e, Nat.pow_zero, Nat.div_one, hy0] at h1; exact HX0.out h1.symm
    obtain ⟨gc, rfl, hPc, hgc⟩ := hCM.pos (by rw [hcs]; exact hk0); have HTOP : Hid (x / CB ^ k = 0) := zh (by rw [← hcs, ← hCM.eq]; exact hy0); have HLAST : Hid (∀ j, j < k → x / CB ^ j ≠ 0) := zh (fun j hj => ck_mono (hCM.last (by rw [hcs]; exact hk0)) (by rw [hcs]; omega))
    have HCS : Hid (∀ j, j < k → ∃ (u : Nat), u = x / CB ^ j % CB ∧ u < CB ∧ ∀ V, PadW V gc cc cs → V.cell? ⟨gc, j, none⟩ = some (.int .u64 (u : Nat))) := zh (fun j hj => by
     have hj2 : j < cs.length := by rw [hcs]; exact hj
     exact ⟨cs[j], hCM.at' j hj2, by rw [hCM.at' j hj2]; exact Nat.mod_lt _ (by decide), fun V hV => hV.cell hj2⟩)
    have HBW := zh hCM.below; have HPC := zh hPc; have hgcw : w.heap.size ≤ gc := Nat.le_trans HB1.out.size hgc; clear hPc hCM hcs HC HY hy0; go_upto_region 12 with (fail); rw [alloc20]; have hal : Below wo.heap.size wo (wo.alloc (.cells z20 175)) := bal
    have HL0 : Hid (LpM w A gc cc wo.heap.size cs [] (wo.alloc (.cells z20 175)) A c l) := zh
      ⟨HT.out.keep (below_all HBW.out hal), TxR.of (below_all HBW.out hal), HPC.out.keep hal, ⟨_, Blk.new _ _ _, by simp [z20], by simp [Lib.byteCells]⟩, fun ad e => ⟨by have := HT.out.lt ad e; omega, by have := HT.out.lt ad e; have := HBW.out.size; omega⟩, by have := HPC.out.lt; omega, HBW.out.size⟩
    obtain ⟨gb, hgb⟩ := eqx (wo.heap.size); rw [hgb] at HL0 ⊢; clear hal hgb; generalize wo.alloc (.cells z20 175) = W2 at *; have wk : IntKind.i64.wrap ((k : Int) - 1) = (k : Int) - 1 := IntWalk.i64_in _ (by omega); go_upto_block 4 with (fail); go_wp2
    go_loopw [0, 12, 13] (fun s0 s12 s13 wr => ∃ (i nl c' : Nat) (A' : Option Addr) (f : Bool), s0 = .slice A' nl c' ∧ s12 = .bool f ∧ s13 = .int .i64 ((i : Int) - 1) ∧ i ≤ k ∧ nl ≤ 1200000 ∧ Hid (f = decide (i = k)) ∧ Hid (∃ m ds, nl = nl0 + m.length ∧ (i = k → m = []) ∧ (i < k → m = Dt.D (x / CB ^ i) (Wd - 19 * i)) ∧ LpM w A gc cc gb cs ds wr A' c' (l ++ m))) (fun _ _ s13 _ => (intOf s13 + 1).toNat)
    case atStart => exact ⟨k, nl0, c, A, true, rfl, rfl, rfl, Nat.le_refl _, by omega, zh (by simp), zh ⟨[], [], by simp, fun _ => rfl, fun h => absurd h (by omega), by simpa using HL0.out⟩⟩
    case round =>
     clear HL0; obtain ⟨wi, rfl⟩ : ∃ wi : World, wi = wr := ⟨_, rfl⟩; obtain ⟨i, nl, c', A', f, rfl, rfl, rfl, hi, hnl, HF, HM⟩ := hrel
     cases i with
     | zero =>
       have dd : decide ((0 : Int) ≤ ((0 : Nat) : Int) - 1) = false := by decide
       obtain rfl : f = false := by rw [HF.out]; exact dF (by omega)
       have HR : Hid (Q (.returned (.slice A' nl c')) wi) := zh (by
        obtain ⟨m, ds, e1, _, e3, hL⟩ := HM.out; have e3 := e3 hk0; rw [Nat.pow_zero, Nat.div_one, Nat.mul_zero, Nat.sub_zero] at e3
        exact HQ.out A' c' wi m nl e3.symm (by rw [e1, HN.out]) hL.tx hL.rel)
       clear HF HM HQ; go_wp2; exact HR.out
     | succ j =>
       have e : (((j + 1 : Nat) : Int) - 1) = (j : Int) := by omega
       rw [e]; clear e
       have hjk : j < k := by omega
       obtain ⟨u, hu, huC, hcell⟩ := HCS.out j hjk; obtain ⟨m, ds0, e1, e2, e3, hL⟩ := HM.out; have HU := zh hu; have cj := hcell wi hL.ch; have HCELL := zh hcell; obtain ⟨dl, hdl⟩ := eqx ((Lib.decDigits u).length); obtain ⟨hd1, hd19⟩ := ck_len huC; rw [hdl] at hd1 hd19; have HDL := zh hdl
       have HAU : Hid (∀ V, Below wi.heap.size wi V → Calls Tryz.prog 100 #[.slice (some ⟨gb, 0, none⟩) 0 20, .int .u64 (u : Nat), .int .i64 10] V fun e w' => e = .returned (.slice (some ⟨gb, 0, none⟩) dl 20) ∧ Hid (LpM w A gc cc gb cs (Lib.decDigits u) w' A' c' (l ++ m))) := zh (fun V hV => by
        have hL' := hL.keep hV
        refine (buint_any gb u 175 V hL'.buf.nil (Nat.lt_trans huC (by decide)) (pt_rel HPT.out hL'.rel HPA.out)).mono fun e w' hr => ?_
        obtain ⟨q1, q2⟩ := hL'.put hr
        exact ⟨by rw [q1, hdl], zh q2⟩)
       have HLEN : Hid (nl = (l ++ m).length) := zh (by rw [e1, List.length_append, HN.out]); have HMM : Hid ((j + 1 = k → m = []) ∧ (j + 1 < k → m = Dt.D (x / CB ^ (j + 1)) (Wd - 19 * (j + 1)))) := zh ⟨e2, e3⟩
       have hml : m.length + nl0 = nl := by omega
       clear hL hcell hu hdl HM e1 e2 e3 huC
       have q0 : (0 : Int) ≤ (j : Int) := by omega
       have q1 : (j : Int) < (k : Int) := by omega
       have q3 : ((j : Int)).toNat = j := by omega
       have d1 : decide ((0 : Int) ≤ (j : Int)) = true := dT q0; have y1 : IntKind.i64.wrap ((j : Int) - 1) = (j : Int) - 1 := IntWalk.i64_in _ (by omega); obtain ⟨tj, htj⟩ := eqx (19 * j)
       have t1 : (19 : Int) * (j : Int) = (tj : Int) := by omega
       have t2 : IntKind.i64.wrap (tj : Int) = (tj : Int) := IntWalk.i64_in _ (by omega); have t3 : IntKind.i64.wrap ((Wd : Int) - (tj : Int)) = (Wd : Int) - (tj : Int) := IntWalk.i64_in _ (by omega); have HTJ := zh htj; clear htj; obtain rfl | rfl := bool_or f
       ·have hjk' : j + 1 = k := of_decide_eq_true HF.out.symm; obtain ⟨sz, hsz⟩ := eqx (max dl (Wd - tj))
        have s1 : max (dl : Int) ((Wd : Int) - (tj : Int)) = (sz : Int) := by omega
        obtain ⟨zs, hzs⟩ := eqx (sz - dl)
        have s2 : (sz : Int) - (dl : Int) = (zs : Int) := by omega
        have hzw : zs ≤ 100000 := by omega
        have HG : Hid (m ++ (List.replicate zs 48 ++ Lib.decDigits u) = Dt.D (x / CB ^ j) (Wd - 19 * j)) := zh (by
         rw [HMM.out.1 hjk', List.nil_append, show zs = (Wd - 19 * j) - (Lib.decDigits u).length by rw [HDL.out, HTJ.out]; omega]
         exact ck_top Wd u HU.out (by rw [hjk']; exact HTOP.out) (HLAST.out j hjk))
        have s3 : IntKind.i64.wrap (zs : Int) = (zs : Int) := IntWalk.i64_in _ (by omega); clear HF HMM hjk' hzs hsz
        have hsl := fun W => slice20 gb W
        have hbe : Below wi.heap.size wi wi.drew := brf.drew; go_upto_region 16 with (fail)
        go_region_held3 (fun w' => w'.cell? ⟨gc, j, none⟩ = some (.int .u64 (u : Nat)))
          (first | exact cj | exact keep_cell hbe cj | go_keep)
          (first | (go_at_call 100; with_reducible refine Calls.mono (HAU.out _ (by assumption)) ?_; rintro e w3 ⟨rfl, HL3⟩; have cj := HCELL.out w3 HL3.out.ch))
        clear HAU cj; go_upto_block 6 with (fail); go_wp2
        go_loopw [0, 71] (fun s0 s71 wr => ∃ (z nl' c'' : Nat) (A'' : Option Addr), s0 = .slice A'' nl' c'' ∧ s71 = .int .i64 (z : Nat) ∧ z ≤ zs ∧ nl' = nl + z ∧ Hid (LpM w A gc cc gb cs (Lib.decDigits u) wr A'' c'' ((l ++ m) ++ List.replicate z 48))) (fun _ s71 _ => zs - (intOf s71).toNat)
        case atStart => exact ⟨0, nl, c', A', rfl, rfl, Nat.zero_le _, rfl, zh (by simpa using HL3.out)⟩
        case round =>
         clear HL3; obtain ⟨wj, rfl⟩ : ∃ wj : World, wj = wr := ⟨_, rfl⟩; obtain ⟨z, nl', c'', A'', rfl, rfl, hz, hnl', HL4⟩ := hrel; have HLL : Hid (((l ++ m) ++ List.replicate z 48).length = nl') := zh (by rw [List.length_append, List.length_replicate, ← HLEN.out, hnl'])
         by_cases hzk : z = zs
         ·have d2 : decide ((z : Int) < (zs : Int)) = false := dF (by omega); have d2' : decide (z < zs) = false := dF (by omega); obtain ⟨A3, c3, w5, hr, hL5⟩ := HL4.out.app 91 91 _ (HL4.out.buf.src 20) rfl (by rw [HDL.out]; omega) (by rw [HLL.out, HDL.out]; omega); rw [HLL.out, HDL.out] at hr; have HR := zh hr
          have HNEW : Hid (∃ m ds, nl' + dl = nl0 + m.length ∧ (j = k → m = []) ∧ (j < k → m = Dt.D (x / CB ^ j) (Wd - 19 * j)) ∧ LpM w A gc cc gb cs ds w5 A3 c3 (l ++ m)) := zh ⟨m ++ (List.replicate zs 48 ++ Lib.decDigits u), Lib.decDigits u, by
           simp only [List.length_append, List.length_replicate, HDL.out]; omega, fun h => absurd h (by omega), fun _ => HG.out, by
           rw [hzk] at hL5
           simpa [List.append_assoc] using hL5⟩
          have hnb : nl' + dl ≤ 1200000 := by
           obtain ⟨mm, _, e1, _, e3, _⟩ := HNEW.out; have := D_bound (N := 1016) HXL.out (by decide) j (Wd - 19 * j); rw [← e3 hjk] at this; omega
          have HF2 : Hid (false = decide (j = k)) := zh (dF (by omega)).symm; have HNL5 : Hid (nl' + dl = nl + z + dl) := zh (by omega); clear hr hL5 HL4 HLL HG hzk hz hnl'
          go_wp2_with (at_builtin; refine Fi.wpList_append_run _ rfl _ _ 91 91 rfl _ _ HR.out ?_)
          refine And.intro ?_ (by first | (simp [intOf]; omega) | simp [intOf]); exact ⟨j, nl' + dl, c3, A3, false, rfl, rfl, (by first | rfl | go_num), by omega, hnb, HF2, HNEW⟩
         ·have hzl : z < zs := by omega
          have d2 : decide ((z : Int) < (zs : Int)) = true := dT (by omega); have d2' : decide (z < zs) = true := dT hzl; obtain ⟨A3, c3, w5, hr, hL5⟩ := HL4.out.zero (by rw [HLL.out]; omega); rw [HLL.out] at hr; have HR : Hid ((Builtin.append_ #[91, 91] 91 #[.slice A'' nl' c'', .slice (some ⟨wj.heap.size, 0, none⟩) 1 1]).run Tryz.prog (wj.alloc (.cells #[.int .u8 48] 5)) = .ok (.slice A3 (nl' + 1) c3) w5) := zh hr; have HL6 : Hid (LpM w A gc cc gb cs (Lib.decDigits u) w5 A3 c3 ((l ++ m) ++ List.replicate (z + 1) 48)) := zh (by rw [List.replicate_succ', ← List.append_assoc]; exact hL5)
          have hnl2 : nl' + 1 = nl + (z + 1) := by omega
          have HNL2 := zh hnl2; clear hr hL5 HL4 HLL hzk hnl' hnl2
          go_wp2_with (at_builtin; refine Fi.wpList_append_run _ rfl _ _ 91 91 rfl _ _ HR.out ?_)
          go_roundw
          case rel => exact ⟨z + 1, nl' + 1, c3, A3, rfl, by go_num, by omega, HNL2.out, HL6⟩
          case measure => first | (simp [intOf]; omega) | simp [intOf]
       ·have hjk' : j + 1 < k := by have := of_decide_eq_false HF.out.symm; omega
        obtain ⟨zs, hzs⟩ := eqx (19 - dl)
        have s2 : (19 : Int) - (dl : Int) = (zs : Int) := by omega
        have hzw : zs ≤ 100000 := by omega
        have HG : Hid (m ++ (List.replicate zs 48 ++ Lib.decDigits u) = Dt.D (x / CB ^ j) (Wd - 19 * j)) := zh (by
         rw [HMM.out.2 hjk', show zs = 19 - (Lib.decDigits u).length by rw [HDL.out]; omega]
         exact ck_text Wd u HU.out (HLAST.out _ hjk'))
        have s3 : IntKind.i64.wrap (zs : Int) = (zs : Int) := IntWalk.i64_in _ (by omega); clear HF HMM hjk' hzs
        have hsl := fun W => slice20 gb W
        have hbe : Below wi.heap.size wi wi.drew := brf.drew; go_upto_region 16 with (fail)
        go_region_held3 (fun w' => w'.cell? ⟨gc, j, none⟩ = some (.int .u64 (u : Nat)))
          (first | exact cj | exact keep_cell hbe cj | go_keep)
          (first | (go_at_call 100; with_reducible refine Calls.mono (HAU.out _ (by assumption)) ?_; rintro e w3 ⟨rfl, HL3⟩; have cj := HCELL.out w3 HL3.out.ch))
        clear HAU cj; go_upto_block 6 with (fail); go_wp2
        go_loopw [0, 71] (fun s0 s71 wr => ∃ (z nl' c'' : Nat) (A'' : Option Addr), s0 = .slice A'' nl' c'' ∧ s71 = .int .i64 (z : Nat) ∧ z ≤ zs ∧ nl' = nl + z ∧ Hid (LpM w A gc cc gb cs (Lib.decDigits u) wr A'' c'' ((l ++ m) ++ List.replicate z 48))) (fun _ s71 _ => zs - (intOf s71).toNat)
        case atStart => exact ⟨0, nl, c', A', rfl, rfl, Nat.zero_le _, rfl, zh (by simpa using HL3.out)⟩
        case round =>
         clear HL3; obtain ⟨wj, rfl⟩ : ∃ wj : World, wj = wr := ⟨_, rfl⟩; obtain ⟨z, nl', c'', A'', rfl, rfl, hz, hnl', HL4⟩ := hrel; have HLL : Hid (((l ++ m) ++ List.replicate z 48).length = nl') := zh (by rw [List.length_append, List.length_replicate, ← HLEN.out, hnl'])
         by_cases hzk : z = zs
         ·have d2 : decide ((z : Int) < (zs : Int)) = false := dF (by omega); have d2' : decide (z < zs) = false := dF (by omega); obtain ⟨A3, c3, w5, hr, hL5⟩ := HL4.out.app 91 91 _ (HL4.out.buf.src 20) rfl (by rw [HDL.out]; omega) (by rw [HLL.out, HDL.out]; omega); rw [HLL.out, HDL.out] at hr; have HR := zh hr
          have HNEW : Hid (∃ m ds, nl' + dl = nl0 + m.length ∧ (j = k → m = []) ∧ (j < k → m = Dt.D (x / CB ^ j) (Wd - 19 * j)) ∧ LpM w A gc cc gb cs ds w5 A3 c3 (l ++ m)) := zh ⟨m ++ (List.replicate zs 48 ++ Lib.decDigits u), Lib.decDigits u, by
           simp only [List.length_append, List.length_replicate, HDL.out]; omega, fun h => absurd h (by omega), fun _ => HG.out, by
           rw [hzk] at hL5
           simpa [List.append_assoc] using hL5⟩
          have hnb : nl' + dl ≤ 1200000 := by
           obtain ⟨mm, _, e1, _, e3, _⟩ := HNEW.out; have := D_bound (N := 1016) HXL.out (by decide) j (Wd - 19 * j); rw [← e3 hjk] at this; omega
          have HF2 : Hid (false = decide (j = k)) := zh (dF (by omega)).symm; have HNL5 : Hid (nl' + dl = nl + z + dl) := zh (by omega); clear hr hL5 HL4 HLL HG hzk hz hnl'
          go_wp2_with (at_builtin; refine Fi.wpList_append_run _ rfl _ _ 91 91 rfl _ _ HR.out ?_)
          refine And.intro ?_ (by first | (simp [intOf]; omega) | simp [intOf]); exact ⟨j, nl' + dl, c3, A3, false, rfl, rfl, (by first | rfl | go_num), by omega, hnb, HF2, HNEW⟩
         ·have hzl : z < zs := by omega
          have d2 : decide ((z : Int) < (zs : Int)) = true := dT (by omega); have d2' : decide (z < zs) = true := dT hzl; obtain ⟨A3, c3, w5, hr, hL5⟩ := HL4.out.zero (by rw [HLL.out]; omega); rw [HLL.out] at hr; have HR : Hid ((Builtin.append_ #[91, 91] 91 #[.slice A'' nl' c'', .slice (some ⟨wj.heap.size, 0, none⟩) 1 1]).run Tryz.prog (wj.alloc (.cells #[.int .u8 48] 5)) = .ok (.slice A3 (nl' + 1) c3) w5) := zh hr; have HL6 : Hid (LpM w A gc cc gb cs (Lib.decDigits u) w5 A3 c3 ((l ++ m) ++ List.replicate (z + 1) 48)) := zh (by rw [List.replicate_succ', ← List.append_assoc]; exact hL5)
          have hnl2 : nl' + 1 = nl + (z + 1) := by omega
          have HNL2 := zh hnl2; clear hr hL5 HL4 HLL hzk hnl' hnl2
          go_wp2_with (at_builtin; refine Fi.wpList_append_run _ rfl _ _ 91 91 rfl _ _ HR.out ?_)
          go_roundw
          case rel => exact ⟨z + 1, nl' + 1, c3, A3, rfl, by go_num, by omega, HNL2.out, HL6⟩
          case measure => first | (simp [intOf]; omega) | simp [intOf]
   ·have hm1 : decide ((0 : Int) < (m : Int)) = true := dT (by omega); have hm1' : decide (0 < m) = true := dT (by omega); obtain ⟨cs, hcs, hCM⟩ := HC.out
    have hy0 : y ≠ 0 := fun e => by have := HY.out; rw [e, dg_zero] at this; exact hm0 this.symm
    have hk2 : k < 1016 := ck_bound HXL.out (by rw [← hcs, ← hCM.eq]; exact hy0); obtain ⟨ra, hBa, hra⟩ := hCM.work.ex; have HST : Hid (DiM wo ga ra (dg y) wo m 0 []) := zh (by rw [← HY.out]; exact DiM.start hBa)
    have HEND : Hid (∀ V r qs, DiM wo ga ra (dg y) V 0 r qs → Calls Tryz.prog 88 #[.slice (some ⟨ga, 0, none⟩) m cw] V fun e w' => ∃ m2, e = .returned (.slice (some ⟨ga, 0, none⟩) m2 cw) ∧ V = w' ∧ m2 ≤ 1000 ∧ Hid ((dg (y / CB)).length = m2)) := zh (fun V r qs s => by
     obtain ⟨o1, o2, o3⟩ := s.out; have hb := s.blk; rw [List.take_zero, List.nil_append] at hb
     have hq : qs.length = m := by rw [o3, HY.out]
     have := trim_n (some ⟨ga, 0, none⟩) cw qs V (sets_pre hb rfl) s.dig (by omega) (by have := HY.out; omega); rw [hq, o1] at this; refine this.mono ?_; rintro e w' ⟨rfl, rfl, _⟩
     exact ⟨_, rfl, rfl, Nat.le_trans (Nat.le_trans (Go.Bw.dg_len_mono (Nat.div_le_self _ _)) (Nat.le_of_eq HY.out)) hm, zh rfl⟩)
    have HNEXT : Hid (∀ V r qs, DiM wo ga ra (dg y) V 0 r qs → ∃ C' cc' w', (Builtin.append_ #[66, 66] 66 #[.slice C k cc, .slice (some ⟨V.heap.size, 0, none⟩) 1 1]).run Tryz.prog (V.alloc (.cells #[.int .u64 (r : Nat)] 118)) = .ok (.slice C' (k + 1) cc') w' ∧ ∃ cs', cs'.length = k + 1 ∧ CkM w w1.heap.size ga cw x w' (y / CB) cs' C' cc') := zh (fun V r qs s => by
     obtain ⟨C', cc', w', hr, hM⟩ := hCM.next hra hy0 s (by omega); rw [hcs] at hr
     exact ⟨C', cc', w', hr, _, by rw [List.length_append, hcs]; rfl, hM⟩)
    clear hBa hra hCM hcs HC hy0; have w1' : IntKind.i64.wrap ((m : Int) - 1) = (m : Int) - 1 := IntWalk.i64_in _ (by omega); go_upto_block 2 with (fail); go_wp2
    go_loopw [9, 10] (fun s9 s10 wr => ∃ (i r : Nat) (qs : List Nat), s9 = .int .u64 (r : Nat) ∧ s10 = .int .i64 ((i : Int) - 1) ∧ i ≤ m ∧ Hid (DiM wo ga ra (dg y) wr i r qs)) (fun _ s10 _ => (intOf s10 + 1).toNat)
    case atStart => exact ⟨m, 0, [], rfl, rfl, Nat.le_refl _, HST⟩
    case round =>
     clear HST; obtain ⟨wi, rfl⟩ : ∃ wi : World, wi = wr := ⟨_, rfl⟩; obtain ⟨i, r, qs, rfl, rfl, hi, HS⟩ := hrel
     cases i with
     | zero =>
       have dd : decide ((0 : Int) ≤ ((0 : Nat) : Int) - 1) = false := by decide
       have HE := zh (HEND.out _ _ _ HS.out); obtain ⟨C', cc', w', hr, hCM'⟩ := HNEXT.out _ _ _ HS.out; have HR := zh hr; have HC' := zh hCM'; clear hr hCM' HEND HNEXT HS
       go_wp2_with (first
         | (go_at_call 88; refine HE.out.mono ?_; rintro e w2 ⟨m2, rfl, rfl, hm2, HM2⟩)
         | (at_builtin; refine Fi.wpList_append_run _ rfl _ _ 66 66 rfl _ _ HR.out ?_))
       refine And.intro ?_ (by first | (simp [slen]; omega) | simp [slen]); exact ⟨y / CB, m2, k + 1, cc', C', rfl, rfl, hm2, by omega, HM2, HC'⟩
     | succ j =>
       have hjl : j < (dg y).length := by rw [HY.out]; omega
       have e : (((j + 1 : Nat) : Int) - 1) = (j : Int) := by omega
       rw [e]; clear e; obtain ⟨cj, fj⟩ := HS.out.cell hjl; have huB := (dg_dig y) _ (List.getElem_mem hjl); have HNX : Hid (∀ V, Below wi.heap.size wi V → DiM wo ga ra (dg y) (V.setCell ⟨ga, j, none⟩ (.int .u64 ((r * B + (dg y)[j]) / CB : Nat))) j ((r * B + (dg y)[j]) % CB) ((r * B + (dg y)[j]) / CB :: qs)) := zh (fun V hV => (HS.out.keep hV).next hjl huB); have HCB : Hid (∀ V, Below wi.heap.size wi V → V.cell? ⟨ga, j, none⟩ = some (.int .u64 ((dg y)[j] : Nat)) ∧ V.frozen? ⟨ga, j, none⟩ = false) := zh (fun V hV => (HS.out.keep hV).cell hjl); have hrh := HS.out.lt; generalize (dg y)[j] = u at *; have hD := div64 r u CB hrh huB (by decide); obtain ⟨q, hq⟩ := eqx ((r * B + u) / CB); obtain ⟨r2, hr2⟩ := eqx ((r * B + u) % CB); rw [hq, hr2] at hD HNX
       have HD : Hid (∀ V, Calls Tryz.prog 115 #[.int .u64 (r : Nat), .int .u64 (u : Nat), .int .u64 10000000000000000000] V fun e w' => e = .returned (.tuple #[.int .u64 (q : Nat), .int .u64 (r2 : Nat)]) ∧ Below V.heap.size V w') := zh hD; clear hq hr2 hD HEND HNEXT
       have q0 : (0 : Int) ≤ (j : Int) := by omega
       have q1 : (j : Int) < (m : Int) := by omega
       have q3 : ((j : Int)).toNat = j := by omega
       have d1 : decide ((0 : Int) ≤ (j : Int)) = true := dT q0; have y1 : IntKind.i64.wrap ((j : Int) - 1) = (j : Int) - 1 := IntWalk.i64_in _ (by omega)
       go_wp2_with (go_at_call 115; refine (HD.out _).mono ?_; rintro e w2 ⟨rfl, hb2⟩; obtain ⟨c2, f2⟩ := HCB.out w2 hb2; have HB2 := zh hb2; clear hb2)
       go_roundw
       case rel => exact ⟨j, r2, q :: qs, rfl, rfl, by omega, zh (HNX.out _ HB2.out)⟩
       case measure => first | (simp [intOf]; omega) | simp [intOf]
end
end Go.Proofs.Tg.Iw
namespace Go.Proofs.Tg.Iw
section
open Go.RowKit Go.Bw Go.Gr Go.Proofs.Tg
open Go.Proofs.Tg.Fi (TxS TxR Buf RetTa RetBuf txs_append byte_src PT)
def pw (i : Nat) : Nat := CB ^ 2 ^ i
theorem pw_ten (i : Nat) : pw i = 10 ^ (19 * 2 ^ i) := CB_pow _
theorem pw_sq (i : Nat) : pw i * pw i = pw (i + 1) := by
 unfold pw
 rw [← Nat.pow_add, Nat.pow_succ]
 congr 1
 omega
theorem pw_pos (i : Nat) : pw i ≠ 0 := Nat.ne_of_gt (Nat.pow_pos (by decide))
theorem pw_len (i : Nat) : (dg (pw i)).length ≤ 2 ^ i := by
 refine Nat.le_trans (dg_len_lt (k := 2 ^ i) ?_) (Nat.le_refl _)
 exact Nat.pow_lt_pow_left (by decide) (Nat.ne_of_gt (Nat.pow_pos (by decide)))
theorem pw_lo {i : Nat} (h : 6 ≤ i) : 64 ≤ (dg (pw i)).length := by
 refine Nat.le_of_not_lt fun hlt => ?_
 have h1 : pw i < B ^ 63 := Nat.lt_of_lt_of_le (val_lt_dg _) (Nat.pow_le_pow_right (by decide) (by omega))
 have h2 : CB ^ 64 ≤ pw i := by
  unfold pw; refine Nat.pow_le_pow_right (by decide) ?_; have : 2 ^ 6 ≤ 2 ^ i := Nat.pow_le_pow_right (by decide) h; omega
 have h3 : (2 ^ 63) ^ 64 ≤ CB ^ 64 := Nat.pow_le_pow_left (by decide) 64
 have h4 : (2 ^ 64) ^ 63 = (2 ^ 63) ^ 64 := by rw [← Nat.pow_mul]
 have h5 : B ^ 63 = (2 ^ 64) ^ 63 := rfl
 rw [h5, h4] at h1
 exact absurd (Nat.lt_of_lt_of_le h1 (Nat.le_trans h3 h2)) (Nat.lt_irrefl _)
def PwAt (w : World) (P : Option Addr) (p : Nat) : Prop := ∀ i, i < p → ∃ ad R C, P = some ad ∧ w.cell? (ad.add i) = some (.slice R (dg (pw i)).length C) ∧ NW w R C (pw i)
theorem PwAt.keep {w w' : World} {P : Option Addr} {p : Nat} (h : PwAt w P p) (hb : Below w.heap.size w w') : PwAt w' P p := fun i hi => by
 obtain ⟨ad, R, C, e, hc, hN⟩ := h i hi
 exact ⟨ad, R, C, e, keep_cell hb hc, hN.keep hb⟩
theorem PwAt.less {w : World} {P : Option Addr} {p q : Nat} (h : PwAt w P p) (hq : q ≤ p) : PwAt w P q := fun i hi => h i (by omega)
theorem PwAt.txr {w w' : World} {P A A' : Option Addr} {p c : Nat} {l : List UInt8} (h : PwAt w P p) (hT : TxS w A c l) (hR : TxR A w A' w') : PwAt w' P p := fun i hi => by
 obtain ⟨ad, R, C, e, hc, hN⟩ := h i hi
 have hs : Sl w (some (ad.add i)) 1 1 [.slice R (dg (pw i)).length C] := ⟨rfl, fun _ => ⟨_, rfl, World.block_lt_of_cell? w _ hc, fun j u hu => by
  cases j with
  | zero => simp at hu; subst hu; simpa [Addr.add] using hc
  | succ j => simp at hu⟩⟩
 have h2 := sl_txr hs (by simp) hT hR
 obtain ⟨ad2, e2, _, ha⟩ := h2.lies (by decide)
 injection e2 with e2
 subst e2
 have h3 := ha 0 _ rfl
 exact ⟨ad, R, C, e, by simpa [Addr.add] using h3, hN.txr hT hR⟩
theorem apps_w (A : Option Addr) (c : Nat) (l : List UInt8) (X : Option Addr) (cx x Wd : Nat) (w : World) (hT : TxS w A c l) (hX : NW w X cx x) (hn : (dg x).length ≤ 1000) (hW : Wd ≤ 100000) (hl : l.length ≤ 1000000) (ht : PT w) (hpa : ∀ ad, A = some ad → 0 < ad.block) :
    Calls Tryz.prog 123 #[.slice A l.length c, .slice X (dg x).length cx, .int .i64 (Wd : Nat)] w (RetTa A l (Dt.D x Wd) w) := by
  by_cases hx : x = 0
  ·subst hx; rw [dg_zero]; exact apps_zero A c l X cx Wd w hT hW hl
  ·exact apps_pos A c l X cx x Wd w hT hX hx hn hW hl ht hpa
theorem D_small {x : Nat} (hx : (dg x).length ≤ 1000) (W : Nat) : (Dt.D x W).length ≤ W + 19304 := by
 have := D_bound (N := 1016) hx (by decide) 0 W
 rw [Nat.pow_zero, Nat.div_one] at this
 omega
theorem retta_is {A : Option Addr} {l m : List UInt8} {w : World} : ∀ e w', RetTa A l m w e w' → ∃ v, e = .returned v := fun e w' h => by obtain ⟨_, _, rfl, _⟩ := h; exact ⟨_, rfl⟩
theorem split_small (A : Option Addr) (c : Nat) (l : List UInt8) (X : Option Addr) (cx x Wd n cp : Nat) (P : Option Addr) (w : World) (hT : TxS w A c l) (hX : NW w X cx x) (hn : (dg x).length ≤ 1000) (hW : Wd ≤ 100000) (hl : l.length ≤ 1000000) (ht : PT w) (hpa : ∀ ad, A = some ad → 0 < ad.block) (hp : n ≤ 7) (h : n = 0 ∨ (dg x).length ≤ 30) :
    Calls Tryz.prog 101 #[.slice A l.length c, .slice X (dg x).length cx, .int .i64 (Wd : Nat), .slice P n cp] w (RetTa A l (Dt.D x Wd) w) := by
  have HS := zh (apps_w A c l X cx x Wd w hT hX hn hW hl ht hpa); have HR := zh (retta_is (A := A) (l := l) (m := Dt.D x Wd) (w := w)); generalize RetTa A l (Dt.D x Wd) w = Q at *; have y1 : IntKind.i64.wrap ((n : Int) - 1) = (n : Int) - 1 := IntWalk.i64_in _ (by omega); generalize (dg x).length = nx at *; generalize l.length = nl at *; clear hT hX ht hpa
  by_cases h0 : n = 0
  ·subst h0
   have d1 : decide (((0 : Nat) : Int) - 1 < 0) = true := by decide
   clear h; go_enter Tryz.func101, Tryz.ntmps101
   go_wp2_with (go_at_call 123; refine HS.out.mono ?_; rintro e w' h; obtain ⟨v, rfl⟩ := HR.out _ _ h; have H := zh h; clear h)
   exact H.out
  ·have d1 : decide ((n : Int) - 1 < 0) = false := dF (by omega)
   have h30 : nx ≤ 30 := by omega
   have d2 : decide ((nx : Int) ≤ 30) = true := dT (by omega); have d2' : decide (nx ≤ 30) = true := dT h30; clear h h0; go_enter Tryz.func101, Tryz.ntmps101
   go_wp2_with (go_at_call 123; refine HS.out.mono ?_; rintro e w' h; obtain ⟨v, rfl⟩ := HR.out _ _ h; have H := zh h; clear h)
   exact H.out
def SplitOk (p : Nat) : Prop := ∀ (A : Option Addr) (c : Nat) (l : List UInt8) (X : Option Addr) (cx x Wd cp : Nat) (P : Option Addr) (w : World), TxS w A c l → NW w X cx x → (dg x).length ≤ 79 → (Wd = 0 ∨ Wd = 19 * 2 ^ p) → l.length + 30000 * p ≤ 900000 → PT w → (∀ ad, A = some ad → 0 < ad.block) → p ≤ 7 → p ≤ cp → PwAt w P p →
    Calls Tryz.prog 101 #[.slice A l.length c, .slice X (dg x).length cx, .int .i64 (Wd : Nat), .slice P p cp] w (RetTa A l (Dt.D x Wd) w)
theorem pw_le {p : Nat} (h : p ≤ 7) : 2 ^ p ≤ 128 := by
 have : 2 ^ p ≤ 2 ^ 7 := Nat.pow_le_pow_right (by decide) h
 omega
theorem RetTa.before {A : Option Addr} {l m m' : List UInt8} {w w1 : World} {e : Ending} {w' : World} (h : RetTa A l m w1 e w') (hb : Below w.heap.size w w1) (hm : m = m') : RetTa A l m' w e w' := by
 obtain ⟨A', c', e, h1, h2⟩ := h
 subst hm
 exact ⟨A', c', e, h1, (TxR.of hb).trans h2⟩
theorem pa_txr {A A' : Option Addr} {w w' : World} (hR : TxR A w A' w') (ht : PT w) (hpa : ∀ ad, A = some ad → 0 < ad.block) : ∀ ad, A' = some ad → 0 < ad.block := fun ad e => by
 rcases hR.at' with e2 | ⟨g, e2, hg⟩
 ·exact hpa ad (by rw [← e2]; exact e)
 ·rw [e] at e2
  injection e2 with e2
  subst e2; exact Nat.lt_of_lt_of_le ht.lt hg
theorem split_step (p : Nat) (IH : SplitOk p) : SplitOk (p + 1) := by
 intro A c l X cx x Wd cp P w hT hX hn hW hl ht hpa hp hcp hP
 by_cases h30 : (dg x).length ≤ 30
 ·have hw : Wd ≤ 100000 := by
   rcases hW with h | h
   ·omega
   ·have := pw_le hp; omega
  exact split_small A c l X cx x Wd (p + 1) cp P w hT hX (by omega) hw (by omega) ht hpa hp (.inr h30)
 obtain ⟨ad, R, C, rfl, hc, hR⟩ := hP p (by omega)
 have hd2 := pw_le (show p ≤ 7 by omega)
 have hpl : (dg (pw p)).length < 80 := by
  have h1 := pw_len p; have h2 : 2 ^ p ≤ 2 ^ 6 := Nat.pow_le_pow_right (by decide) (by omega); omega
 have HD := zh (divw_any X R cx C x (pw p) w hX hR (by omega) (by omega) (pw_pos p) (.inl hpl))
 unfold RetDiv at HD
 have hhl : (dg (x / pw p)).length ≤ 79 := Nat.le_trans (Go.Bw.dg_len_mono (Nat.div_le_self _ _)) hn
 have hll : (dg (x % pw p)).length ≤ 79 := Nat.le_trans (Go.Bw.dg_len_mono (Nat.mod_le _ _)) hn
 obtain ⟨k, hk⟩ := eqx (19 * 2 ^ p)
 obtain ⟨n, hnn⟩ := eqx (p + 1)
 obtain ⟨nl, hnl⟩ := eqx (l.length)
 obtain ⟨nx, hnx⟩ := eqx ((dg x).length)
 obtain ⟨lp, hlp⟩ := eqx ((dg (pw p)).length)
 obtain ⟨lh, hlh⟩ := eqx ((dg (x / pw p)).length)
 obtain ⟨ll, hll2⟩ := eqx ((dg (x % pw p)).length)
 rw [hnx, hlp, hlh, hll2] at HD
 rw [hlp] at hc
 rw [hnn] at hp hcp
 show Calls _ _ #[_, _, _, .slice (some ad) (p + 1) cp] _ _
 rw [hnl, hnx, hnn]
 have y1 : IntKind.i64.wrap ((n : Int) - 1) = (p : Int) := (IntWalk.i64_in _ (by omega)).trans (by omega)
 have d1 : decide ((p : Int) < 0) = false := dF (by omega)
 have d2 : decide ((nx : Int) ≤ 30) = false := dF (by omega)
 have d2' : decide (nx ≤ 30) = false := dF (by omega)
 have q0 : (0 : Int) ≤ (p : Int) := by omega
 have q1 : (p : Int) < (n : Int) := by omega
 have q3 : ((p : Int)).toNat = p := by omega
 have e1 : (n : Int) - 1 = (p : Int) := by omega
 have hk2 : k ≤ 1216 := by
  have : 2 ^ p ≤ 2 ^ 6 := Nat.pow_le_pow_right (by decide) (by omega); omega
 have hWk : Wd = 0 ∨ Wd = 2 * k := by
  rcases hW with h | h
  ·exact .inl h
  ·right; rw [h, ← hk, Nat.pow_succ]; omega
 obtain ⟨W1, hW1⟩ := eqx (Wd - k)
 have hW1k : W1 = 0 ∨ W1 = 19 * 2 ^ p := by omega
 have s1 : wrap64 ((19 : Int) * 2 ^ p) = (k : Int) := by
  have e : (19 : Int) * 2 ^ p = (k : Int) := by rw [← hk]; simp
  rw [e]; unfold wrap64; omega
 have s2 : IntKind.i64.wrap ((Wd : Int) - (k : Int)) = (Wd : Int) - (k : Int) := IntWalk.i64_in _ (by omega)
 have s3 : max ((Wd : Int) - (k : Int)) 0 = (W1 : Int) := by omega
 have q4 : (p : Int) ≤ (cp : Int) := by omega
 have hlowk : x % pw p < 10 ^ k := by rw [← hk, ← pw_ten]; exact Nat.mod_lt _ (Nat.pos_of_ne_zero (pw_pos p))
 have hxe : x = x / pw p * 10 ^ k + x % pw p := by
  rw [← hk, ← pw_ten]; have := Nat.div_add_mod x (pw p); rw [Nat.mul_comm] at this; exact this.symm
 have HDS : Hid (x / pw p ≠ 0 ∨ k ≤ Wd → Dt.D x Wd = Dt.D (x / pw p) W1 ++ Dt.D (x % pw p) k) := zh (fun h => by
  rw [← hW1]
  conv => lhs; rw [hxe]
  exact Dt.D_split k _ _ Wd hlowk h)
 have HLOW : Hid (x / pw p = 0 → Dt.D (x % pw p) Wd = Dt.D x Wd) := zh (fun h => by
  conv => rhs; rw [hxe]
  rw [h, Nat.zero_mul, Nat.zero_add])
 have HI1 : Hid (∀ w1, Below w.heap.size w w1 → ∀ L cl, NW w1 L cl (x % pw p) → Calls Tryz.prog 101 #[.slice A nl c, .slice L ll cl, .int .i64 0, .slice (some ad) p cp] w1 (RetTa A l (Dt.D (x % pw p) 0) w1)) := zh (fun w1 hb L cl hL => by
  rw [← hnl, ← hll2]
  exact IH A c l L cl (x % pw p) 0 cp (some ad) w1 (hT.keep hb) hL hll (.inl rfl) (by omega) (ht.keep hb) hpa (by omega) (by omega) ((hP.less (by omega)).keep hb))
 have HI2 : Hid (∀ w1, Below w.heap.size w w1 → ∀ H ch, NW w1 H ch (x / pw p) → Calls Tryz.prog 101 #[.slice A nl c, .slice H lh ch, .int .i64 (W1 : Nat), .slice (some ad) p cp] w1 (RetTa A l (Dt.D (x / pw p) W1) w1)) := zh (fun w1 hb H ch hH => by
  rw [← hnl, ← hlh]
  exact IH A c l H ch (x / pw p) W1 cp (some ad) w1 (hT.keep hb) hH hhl hW1k (by omega) (ht.keep hb) hpa (by omega) (by omega) ((hP.less (by omega)).keep hb))
 have HI3 : Hid (∀ w1 w2 A2 c2 n2, Below w.heap.size w w1 → TxS w2 A2 c2 (l ++ Dt.D (x / pw p) W1) → TxR A w1 A2 w2 → n2 = l.length + (Dt.D (x / pw p) W1).length → ∀ L cl, NW w1 L cl (x % pw p) → (x / pw p ≠ 0 ∨ k ≤ Wd) → Calls Tryz.prog 101 #[.slice A2 n2 c2, .slice L ll cl, .int .i64 (k : Nat), .slice (some ad) p cp] w2 (RetTa A l (Dt.D x Wd) w)) := zh (fun w1 w2 A2 c2 n2 hb hT2 hR2 hn2 L cl hL hor => by
  have hTb := hT.keep hb; have hds := D_small (show (dg (x / pw p)).length ≤ 1000 by omega) W1
  have e : n2 = (l ++ Dt.D (x / pw p) W1).length := by rw [List.length_append, hn2]
  rw [e, ← hll2]; refine (IH A2 c2 (l ++ Dt.D (x / pw p) W1) L cl (x % pw p) k cp (some ad) w2 hT2 (hL.txr hTb hR2) hll (.inr hk.symm) (by rw [List.length_append]; omega) (pt_rel (ht.keep hb) hR2 hpa) (pa_txr hR2 (ht.keep hb) hpa) (by omega) (by omega) (((hP.less (by omega)).keep hb).txr hTb hR2)).mono ?_; rintro e w' ⟨A3, c3, rfl, hT3, hR3⟩; refine ⟨A3, c3, ?_, by rw [HDS.out hor, ← List.append_assoc]; exact hT3, ((TxR.of hb).trans hR2).trans hR3⟩
  rw [HDS.out hor, List.length_append, List.length_append, Nat.add_assoc])
 have HR := zh (retta_is (A := A) (l := l) (m := Dt.D x Wd) (w := w))
 have HLH : Hid (lh = 0 ↔ x / pw p = 0) := zh (by
  rw [← hlh]
  exact ⟨len_zero, fun h => by rw [h, dg_zero]; rfl⟩)
 have HTT := zh hT
 clear hT hX hn hW hl ht hpa hP IH hR h30 hpl hd2 hhl hll hk hnn hnl hnx hlp hlh hll2 hW1 hW1k hlowk hxe
 by_cases hAA : lh = 0 ∧ Wd = 0
 ·obtain ⟨h1, rfl⟩ := hAA
  subst h1
  have b1 : (((0 : Nat) : Int) == 0) = true := by decide
  have HL0 : Hid (Dt.D (x % pw p) 0 = Dt.D x 0) := zh (HLOW.out (HLH.out.1 (by first | rfl | trivial))); go_enter Tryz.func101, Tryz.ntmps101
  go_wp2_with (first
    | (go_at_call 86; refine HD.out.mono ?_; rintro e w1 ⟨H, ch, L, cl, rfl, hH, hL, hb1⟩; have HHB := zh hb1; have HHL := zh hL; clear hH hL hb1)
    | ((go_at_call 101; refine (HI1.out _ HHB.out _ _ HHL.out).mono ?_; rintro e w' h; have h := RetTa.before (A := A) (l := l) h HHB.out HL0.out; obtain ⟨v, rfl⟩ := HR.out _ _ h; have H9 := zh h; clear h)))
  go_ret; exact H9.out
 have hor : lh ≠ 0 ∨ (lh = 0 ∧ Wd ≠ 0) := by omega
 have HOR : Hid (x / pw p ≠ 0 ∨ k ≤ Wd) := zh (by
  rcases hor with h | h
  ·exact .inl fun e => h (HLH.out.2 e)
  ·right; omega)
 clear hAA HI1 HLOW HLH hWk
 rcases hor with h1 | ⟨h1, h2⟩
 ·have b1 : ((lh : Int) == 0) = false := beq_eq_false_iff_ne.2 (by omega)
  have b1' : (lh == 0) = false := beq_eq_false_iff_ne.2 h1; clear h1; go_enter Tryz.func101, Tryz.ntmps101
  go_upto_region 9 with (first
    | (go_at_call 86; refine HD.out.mono ?_; rintro e w1 ⟨H, ch, L, cl, rfl, hH, hL, hb1⟩; have HHB := zh hb1; have HHL := zh hL; have HHH := zh hH; clear hH hL hb1)
    | ((go_at_call 101; refine (HI2.out _ HHB.out _ _ HHH.out).mono ?_; rintro e w2 ⟨A2, c2, rfl, hT2, hR2⟩; obtain ⟨n2, hn2⟩ : ∃ n, l.length + (Dt.D (x / pw p) W1).length = n := ⟨_, rfl⟩; rw [hn2]; have H3 := zh (HI3.out _ _ _ _ _ HHB.out hT2 hR2 hn2.symm _ _ HHL.out HOR.out); clear hn2 hT2 hR2)))
  clear HI2 HI3 HD
  go_wp2_with ((go_at_call 101; refine H3.out.mono ?_; rintro e w' h; obtain ⟨v, rfl⟩ := HR.out _ _ h; have H9 := zh h; clear h))
  go_ret; exact H9.out
 ·subst h1
  have b1 : (((0 : Nat) : Int) == 0) = true := by decide
  have b2 : ((Wd : Int) == 0) = false := beq_eq_false_iff_ne.2 (by omega); have b2' : (Wd == 0) = false := beq_eq_false_iff_ne.2 h2; clear h2; go_enter Tryz.func101, Tryz.ntmps101
  go_upto_region 9 with (first
    | (go_at_call 86; refine HD.out.mono ?_; rintro e w1 ⟨H, ch, L, cl, rfl, hH, hL, hb1⟩; have HHB := zh hb1; have HHL := zh hL; have HHH := zh hH; clear hH hL hb1)
    | ((go_at_call 101; refine (HI2.out _ HHB.out _ _ HHH.out).mono ?_; rintro e w2 ⟨A2, c2, rfl, hT2, hR2⟩; obtain ⟨n2, hn2⟩ : ∃ n, l.length + (Dt.D (x / pw p) W1).length = n := ⟨_, rfl⟩; rw [hn2]; have H3 := zh (HI3.out _ _ _ _ _ HHB.out hT2 hR2 hn2.symm _ _ HHL.out HOR.out); clear hn2 hT2 hR2)))
  clear HI2 HI3 HD
  go_wp2_with ((go_at_call 101; refine H3.out.mono ?_; rintro e w' h; obtain ⟨v, rfl⟩ := HR.out _ _ h; have H9 := zh h; clear h))
  go_ret; exact H9.out
theorem split_any : ∀ p, SplitOk p
  | 0 => fun A c l X cx x Wd cp P w hT hX hn hW hl ht hpa hp hcp hP => split_small A c l X cx x Wd 0 cp P w hT hX (by omega) (by omega) (by omega) ht hpa hp (.inl rfl)
  | p + 1 => split_step p (split_any p)
end
end Go.Proofs.Tg.Iw
