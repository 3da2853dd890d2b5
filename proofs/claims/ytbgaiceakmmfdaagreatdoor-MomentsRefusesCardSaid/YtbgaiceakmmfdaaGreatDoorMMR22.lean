/- Parts of the proof: JB8, WN1, FI3, JB9, JB10. -/
import Derived.Test.YtbgaiceakmmfdaaGreatDoorMMR0
import Derived.Test.YtbgaiceakmmfdaaGreatDoorMMR6
import Derived.Test.YtbgaiceakmmfdaaGreatDoorMMR8
import Derived.Test.YtbgaiceakmmfdaaGreatDoorMMR21
set_option maxHeartbeats 64000000
set_option maxRecDepth 100000
namespace Go.Proofs.Tg.Iw
section
open Go.RowKit Go.Bw Go.Gr Go.Proofs.Tg
open Go.Proofs.Tg.Fi (TxS TxR Buf RetTa RetBuf txs_append byte_src PT)
theorem _root_.Go.Proofs.Tg.Blk.same' {w w' : World} {g c : Nat} {t : TypeId} {cs : Array Value} {A A' : Option Addr} {l : List UInt8} (B : Blk w g t cs) (hR : TxR A w A' w') (hT : TxS w A c l) (ht : t ≠ 5 := by decide) : Blk w' g t cs := by
 refine (hR.kept.block g B.lt ?_).trans B
 cases A with
 | none => simp
 | some ad =>
   obtain ⟨b, rfl, ⟨cs', B', _⟩, _⟩ := hT.own ad rfl; intro e
   injection e with e
   have e : g = b := e; subst e; unfold Blk at B B'; rw [B] at B'
   injection B' with B'
   injection B' with _ e2
   exact ht e2
theorem iapp_w (z : Int) (X A : Option Addr) (cx c : Nat) (l : List UInt8) (w : World) (hX : NW w X cx z.natAbs) (hT : TxS w A c l) (hn : (dg z.natAbs).length ≤ 79) (hl : l.length ≤ 500000) (ht : PT w) (hpa : ∀ ad, A = some ad → 0 < ad.block) :
    Calls Tryz.prog 53 #[.agg #[.bool (decide (z < 0)), .slice X (dg z.natAbs).length cx], .slice A l.length c] w (RetTa A l (Lib.itoa z) w) := by
  obtain ⟨W, hW⟩ := eqx (w.alloc (.cells #[.bool (decide (z < 0)), .slice X (dg z.natAbs).length cx] 68))
  have hbW : Below w.heap.size w W := by rw [← hW]; exact bal
  have B0 : Blk W w.heap.size 68 #[.bool (decide (z < 0)), .slice X (dg z.natAbs).length cx] := by rw [← hW]; exact Blk.new _ _ _
  have HR := zh (retta_is (A := A) (l := l) (m := Lib.itoa z) (w := w))
  by_cases hz : z < 0
  ·have e : Lib.itoa z = 45 :: Lib.decDigits z.natAbs := by unfold Lib.itoa; rw [if_pos hz]
   rw [e] at HR ⊢; rw [dT hz] at hW B0 ⊢; obtain ⟨A', c', w', hr, hT2, hR2⟩ := txs_zero (hT.keep hbW) 45 (by omega); have hR3 := (TxR.of (A := A) hbW).trans hR2; have HRUN : Hid ((Builtin.append_ #[91, 91] 91 #[.slice A l.length c, .slice (some ⟨W.heap.size, 0, none⟩) 1 1]).run Tryz.prog (W.alloc (.cells #[.int .u8 45] 5)) = .ok (.slice A' (l.length + 1) c') w') := zh hr; have B1 := B0.same' hR2 (hT.keep hbW)
   have HAW : Hid (Calls Tryz.prog 75 #[.slice A' (l.length + 1) c', .slice X (dg z.natAbs).length cx] w' (RetTa A l (45 :: Lib.decDigits z.natAbs) w)) := zh (by
    have := appw_any A' c' (l ++ [45]) X cx z.natAbs w' hT2 (hX.txr hT hR3) hn (by rw [List.length_append]; simp; omega) (pt_rel ht hR3 hpa) (pa_txr hR3 ht hpa); rw [List.length_append, List.length_singleton] at this; refine this.mono ?_; rintro e w2 ⟨A2, c2, rfl, h1, h2⟩
    exact ⟨A2, c2, by rw [List.length_append, List.length_singleton, List.length_cons]; congr 2; omega, by simpa using h1, hR3.trans h2⟩)
   obtain ⟨x0, x1, _, _⟩ := B0.two; obtain ⟨k0, k1, _, _⟩ := B1.two; have HWW := zh hW; generalize RetTa A l (45 :: Lib.decDigits z.natAbs) w = Q at *; generalize (dg z.natAbs).length = nx at *; clear hW hX hT ht hpa hT2 hR2 hR3 hr B0 B1 e; generalize l.length = nl at *; go_enter Tryz.func53, Tryz.ntmps53; go_upto_region 1 with (fail); rw [HWW.out]
   go_wp2_with (first
     | (at_builtin; refine Fi.wpList_append_run _ rfl _ _ 91 91 rfl _ _ HRUN.out ?_)
     | (go_at_call 75; refine HAW.out.mono ?_; rintro e w2 h; obtain ⟨v, rfl⟩ := HR.out _ _ h; have H := zh h; clear h))
   exact H.out
  ·have e : Lib.itoa z = Lib.decDigits z.natAbs := by
    unfold Lib.itoa; rw [if_neg hz, show z.toNat = z.natAbs by omega]
   rw [e] at HR ⊢; rw [dF hz] at hW B0 ⊢
   have HAW : Hid (Calls Tryz.prog 75 #[.slice A l.length c, .slice X (dg z.natAbs).length cx] W (RetTa A l (Lib.decDigits z.natAbs) w)) := zh
     ((appw_any A c l X cx z.natAbs W (hT.keep hbW) (hX.keep hbW) hn (by omega) (ht.keep hbW) hpa).mono fun e w' h => RetTa.before (A := A) (l := l) h hbW rfl)
   obtain ⟨x0, x1, _, _⟩ := B0.two; have HWW := zh hW; generalize RetTa A l (Lib.decDigits z.natAbs) w = Q at *; generalize (dg z.natAbs).length = nx at *; clear hW hX hT ht hpa B0 e; generalize l.length = nl at *; go_enter Tryz.func53, Tryz.ntmps53; go_upto_region 1 with (fail); rw [HWW.out]
   go_wp2_with (go_at_call 75; refine HAW.out.mono ?_; rintro e w2 h; obtain ⟨v, rfl⟩ := HR.out _ _ h; have H := zh h; clear h)
   exact H.out
theorem itoa_ne (z : Int) : Lib.itoa z ≠ [] := by
 unfold Lib.itoa
 split
 ·simp
 ·exact Go.Qn.dec_ne _
theorem TxS.cells {w : World} {A : Option Addr} {c : Nat} {l : List UInt8} (h : TxS w A c l) (hl : l ≠ []) : ∃ g, A = some ⟨g, 0, none⟩ ∧ ∀ j (hj : j < l.length), w.cell? ((⟨g, 0, none⟩ : Addr).add j) = some (.int .u8 (l[j].toNat : Int)) := by
 cases A with
 | none => exact absurd (h.nil rfl).1 hl
 | some ad =>
   obtain ⟨g, rfl, B, _⟩ := h.own ad rfl; refine ⟨g, rfl, fun j hj => ?_⟩
   have hj2 : j < (Lib.byteCells l).length := by rw [Lib.byteCells_length]; exact hj
   rw [add_lit, Nat.zero_add, Buf.cell' B hj2]; simp [Lib.byteCells]
theorem istr_w (z : Int) (X : Option Addr) (cx : Nat) (w : World) (hX : NW w X cx z.natAbs) (hn : (dg z.natAbs).length ≤ 79) (ht : PT w) :
    Calls Tryz.prog 52 #[.agg #[.bool (decide (z < 0)), .slice X (dg z.natAbs).length cx]] w fun e w' => e = .returned (.string (bs (Lib.itoa z))) ∧ Below w.heap.size w w' := by
  obtain ⟨W, hW⟩ := eqx (w.alloc (.cells #[.bool (decide (z < 0)), .slice X (dg z.natAbs).length cx] 68))
  have hbW : Below w.heap.size w W := by rw [← hW]; exact bal
  have B0 : Blk W w.heap.size 68 #[.bool (decide (z < 0)), .slice X (dg z.natAbs).length cx] := by rw [← hW]; exact Blk.new _ _ _
  have HA : Hid (Calls Tryz.prog 53 #[.agg #[.bool (decide (z < 0)), .slice X (dg z.natAbs).length cx], .slice none 0 0] W fun e w' => ∃ g c', e = .returned (.slice (some ⟨g, 0, none⟩) (Lib.itoa z).length c') ∧ (convert 91 9 (.slice (some ⟨g, 0, none⟩) (Lib.itoa z).length c')).run Tryz.prog w' = .ok (.string ⟨(Lib.itoa z).toArray⟩) w' ∧ Hid (Below w.heap.size w w')) := zh (by
   refine (iapp_w z X none cx 0 [] W (hX.keep hbW) (Fi.TxS.zero W) hn (by simp) (ht.keep hbW) (fun _ h => by cases h)).mono ?_; rintro e w' ⟨A', c', rfl, h1, h2⟩; rw [List.nil_append] at h1; obtain ⟨g, rfl, hc⟩ := TxS.cells h1 (itoa_ne z)
   exact ⟨g, c', by simp, run_convert_bytes_back (P := Tryz.prog) w' 91 9 5 ⟨g, 0, none⟩ c' (Lib.itoa z) Tryz.underlying91 Tryz.underlying5 Tryz.underlying9 hc, zh (below_all hbW (h2.below (Nat.le_refl _) (fun _ h => by cases h)))⟩)
  obtain ⟨x0, x1, _, _⟩ := B0.two; have HWW := zh hW; have HZ : Hid (bs (Lib.itoa z) = ⟨(Lib.itoa z).toArray⟩) := zh rfl; rw [HZ.out]; clear hW hX ht B0; generalize decide (z < 0) = x at *; generalize (dg z.natAbs).length = nx at *; generalize Lib.itoa z = L at *; obtain ⟨ln, hln⟩ := eqx (L.length); rw [hln] at HA; clear hln; go_enter Tryz.func52, Tryz.ntmps52; go_upto_region 1 with (fail); rw [HWW.out]
  go_wp2_with (go_at_call 53; refine HA.out.mono ?_; rintro e w2 ⟨g, c', rfl, hcv, hbe⟩)
  go_ret; exact ⟨rfl, hbe.out⟩
end
end Go.Proofs.Tg.Iw
namespace Go.Proofs.Tg
section
open Go.RowKit Go.Qn
theorem dval_any (s : ByteArray) (w : World) (hs : s.size ≤ 18) (hd : ∀ c ∈ s.data.toList, isD c = true) :
    Calls Tryz.prog 64 #[.string s] w fun e w' => e = .returned (.int .i64 (val s.data.toList : Nat)) ∧ w = w' := by
  have HD := zh hd; have HL := zh (len_size s); clear hd; go_enter Tryz.func64, Tryz.ntmps64; go_wp2
  go_loop [3, 7] (fun s3 s7 => ∃ (k v : Nat), k ≤ s.size ∧ s7 = .int .i64 k ∧ s3 = .int .i64 v ∧ Hid (v = val (s.data.toList.take k) ∧ v < 10 ^ k)) (fun _ s7 => s.size - (intOf s7).toNat)
  case atStart => exact ⟨0, 0, Nat.zero_le _, rfl, rfl, zh ⟨rfl, by decide⟩⟩
  case round =>
   obtain ⟨k, v, hk, rfl, rfl, HV⟩ := hrel
   by_cases hlt : k < s.size
   ·have hlt' : k < s.data.toList.length := by rw [HL.out]; exact hlt
    have hD := HD.out s.data.toList[k] (List.getElem_mem _); obtain ⟨d1, d2⟩ := isD_int hD; have HX : Hid (val (s.data.toList.take (k + 1)) = 10 * v + (s[k].toNat - 48)) := zh (by rw [val_take _ _ hlt', HV.out.1]; rfl)
    have hv : v < 100000000000000000 := Nat.lt_of_lt_of_le HV.out.2 (by
     have : 10 ^ k ≤ 10 ^ 17 := Nat.pow_le_pow_right (by omega) (by omega)
     exact Nat.le_trans this (by decide))
    have HP : Hid (10 * v + (s[k].toNat - 48) < 10 ^ (k + 1)) := zh (by
     have h1 := HV.out.2; rw [Nat.pow_succ]
     have : s[k].toNat ≤ 57 := by have h := d2; change ((s[k].toNat : Int)) ≤ 57 at h; omega
     omega)
    have e1 : (48 : Int) ≤ (s[k].toNat : Int) := d1; have e2 : (s[k].toNat : Int) ≤ 57 := d2; clear hD d1 d2; go_wp2; go_round
    case rel => exact ⟨k + 1, 10 * v + (s[k].toNat - 48), by omega, by go_num, by go_num, zh ⟨HX.out.symm, HP.out⟩⟩
    case measure => simp [intOf]; omega
   ·obtain rfl : k = s.size := by omega
    have d0 : decide (s.size < s.size) = false := by simp
    go_wp2; go_ret; refine ⟨?_, rfl⟩; have := HV.out.1; rw [List.take_of_length_le (by rw [HL.out]; exact Nat.le_refl _)] at this; rw [this]; rfl
theorem sgcd_any (a b : Nat) (w : World) (ha : a < 1000000000000000000) (hb : b < 1000000000000000000) :
    Calls Tryz.prog 41 #[.int .i64 a, .int .i64 b] w fun e w' => e = .returned (.int .i64 (Nat.gcd a b : Nat)) ∧ Below w.heap.size w w' := by
  go_enter Tryz.func41, Tryz.ntmps41; go_wp2
  go_loopw [0, 1] (fun s0 s1 wr => ∃ (x y : Nat), s0 = .int .i64 x ∧ s1 = .int .i64 y ∧ x < 1000000000000000000 ∧ y < 1000000000000000000 ∧ Hid (Nat.gcd x y = Nat.gcd a b) ∧ Below w.heap.size w wr) (fun _ s1 _ => (intOf s1).toNat)
  case atStart => exact ⟨a, b, rfl, rfl, ha, hb, zh rfl, Below.refl _ _⟩
  case round =>
   obtain ⟨wo, rfl⟩ : ∃ wo : World, wo = wr := ⟨_, rfl⟩; obtain ⟨x, y, rfl, rfl, hx, hy, HG, hbw⟩ := hrel
   by_cases h0 : y = 0
   ·subst h0; go_wp2; go_ret; refine ⟨?_, hbw⟩; have := HG.out; rw [Nat.gcd_zero_right] at this; rw [this]; rfl
   ·have hne : ((y : Int) != 0) = true := by simp [h0]
    have hne' : ((y : Int) == 0) = false := by simp [h0]
    have hm : Int.tmod (x : Int) (y : Int) = ((x % y : Nat) : Int) := by rw [Int.ofNat_tmod]
    have hlt : x % y < y := Nat.mod_lt _ (by omega); have hw : IntKind.i64.wrap (((x % y : Nat) : Int)) = ((x % y : Nat) : Int) := IntWalk.i64_in _ (by omega); have HG2 : Hid (Nat.gcd y (x % y) = Nat.gcd a b) := zh (by rw [← HG.out, Nat.gcd_comm y (x % y), ← Nat.gcd_rec, Nat.gcd_comm]); generalize x % y = r at *; go_wp2
    go_quiet (fail)
    go_wp2; go_roundw
    case rel => exact ⟨y, r, rfl, rfl, hy, by omega, HG2, below_drewN hbw _⟩
    case measure => simp [intOf]; omega
end
end Go.Proofs.Tg
namespace Go.Proofs.Tg.Fi
section
open Go.RowKit Go.Rq Go.Qn Go.Proofs.Tg
theorem sgcd_big (a b : Nat) (w : World) (ha : a < 9000000000000000000) (hb : b < 9000000000000000000) :
    Calls Tryz.prog 41 #[.int .i64 a, .int .i64 b] w fun e w' => e = .returned (.int .i64 (Nat.gcd a b : Nat)) ∧ Below w.heap.size w w' := by
  go_enter Tryz.func41, Tryz.ntmps41; go_wp2
  go_loopw [0, 1] (fun s0 s1 wr => ∃ (x y : Nat), s0 = .int .i64 x ∧ s1 = .int .i64 y ∧ x < 9000000000000000000 ∧ y < 9000000000000000000 ∧ Hid (Nat.gcd x y = Nat.gcd a b) ∧ Below w.heap.size w wr) (fun _ s1 _ => (intOf s1).toNat)
  case atStart => exact ⟨a, b, rfl, rfl, ha, hb, zh rfl, Below.refl _ _⟩
  case round =>
   obtain ⟨wo, rfl⟩ : ∃ wo : World, wo = wr := ⟨_, rfl⟩; obtain ⟨x, y, rfl, rfl, hx, hy, HG, hbw⟩ := hrel
   by_cases h0 : y = 0
   ·subst h0; go_wp2; go_ret; refine ⟨?_, hbw⟩; have := HG.out; rw [Nat.gcd_zero_right] at this; rw [this]; rfl
   ·have hne : ((y : Int) != 0) = true := by simp [h0]
    have hne' : ((y : Int) == 0) = false := by simp [h0]
    have hm : Int.tmod (x : Int) (y : Int) = ((x % y : Nat) : Int) := by rw [Int.ofNat_tmod]
    have hlt : x % y < y := Nat.mod_lt _ (by omega); have hw : IntKind.i64.wrap (((x % y : Nat) : Int)) = ((x % y : Nat) : Int) := IntWalk.i64_in _ (by omega); have HG2 : Hid (Nat.gcd y (x % y) = Nat.gcd a b) := zh (by rw [← HG.out, Nat.gcd_comm y (x % y), ← Nat.gcd_rec, Nat.gcd_comm]); generalize x % y = r at *; go_wp2
    go_quiet (fail)
    go_wp2; go_roundw
    case rel => exact ⟨y, r, rfl, rfl, hy, by omega, HG2, below_drewN hbw _⟩
    case measure => simp [intOf]; omega
theorem qtx_int (n : Int) : qtx (n : Rat) = bs (Lib.itoa n) := by
 unfold qtx
 rw [itoa_text]; rfl
theorem qtx_frac {q : Rat} (h : q.den ≠ 1) : qtx q = bs (Lib.itoa q.num ++ 47 :: Lib.itoa (q.den : Int)) := by
 unfold qtx
 rw [itoa_text, itoa_text]
 unfold text
 rw [if_neg h, dF (show ¬ ((q.den : Nat) : Int) < 0 by omega)]
 simp
def RetTx (q : Rat) (w : World) (e : Ending) (w' : World) : Prop := e = .returned (.string (qtx q)) ∧ Below w.heap.size w w'
def z48 : Array Value := Array.replicate 48 (.int .u8 0)
theorem alloc48 (w : World) : w.alloc (.cells #[.int .u8 0, .int .u8 0, .int .u8 0, .int .u8 0, .int .u8 0, .int .u8 0, .int .u8 0, .int .u8 0, .int .u8 0, .int .u8 0, .int .u8 0, .int .u8 0, .int .u8 0, .int .u8 0, .int .u8 0, .int .u8 0, .int .u8 0, .int .u8 0, .int .u8 0, .int .u8 0, .int .u8 0, .int .u8 0, .int .u8 0, .int .u8 0, .int .u8 0, .int .u8 0, .int .u8 0, .int .u8 0, .int .u8 0, .int .u8 0, .int .u8 0, .int .u8 0, .int .u8 0, .int .u8 0, .int .u8 0, .int .u8 0, .int .u8 0, .int .u8 0, .int .u8 0, .int .u8 0, .int .u8 0, .int .u8 0, .int .u8 0, .int .u8 0, .int .u8 0, .int .u8 0, .int .u8 0, .int .u8 0] 90) = w.alloc (.cells z48 90) := rfl
theorem Buf.cellAt {w : World} {g N : Nat} {t : TypeId} {l : List UInt8} (h : Buf w g t N (Lib.byteCells l)) (hl : l.length ≤ N) : ∀ j (hj : j < l.length), w.cell? ((⟨g, 0, none⟩ : Addr).add j) = some (Value.int .u8 (l[j].toNat : Int)) := by
 intro j hj
 obtain ⟨cs, B, hs, ht⟩ := h.ex
 rw [add_lit, Nat.zero_add, B.cell j]
 have hl2 : (Lib.byteCells l).length = l.length := by simp [Lib.byteCells]
 have e : (Lib.byteCells l)[j]? = some (Value.int .u8 (l[j].toNat : Int)) := by simp [Lib.byteCells, hj]
 rw [← ht, hl2, List.getElem?_take_of_lt hj] at e
 simpa using e
theorem mk_parts (n : Int) (d : Nat) (hd : d ≠ 0) : Int.tdiv n ((Nat.gcd n.natAbs d : Nat) : Int) = (mkRat n d).num ∧ Int.tdiv (d : Int) ((Nat.gcd n.natAbs d : Nat) : Int) = ((mkRat n d).den : Int) := by
 have hg : 0 < Nat.gcd n.natAbs d := Nat.gcd_pos_of_pos_right _ (by omega)
 rw [Rat.num_mkRat, Rat.den_mkRat, if_neg hd, if_neg hd, Nat.gcd_comm d]
 constructor
 ·rw [Int.tdiv_eq_ediv_of_dvd (Int.ofNat_dvd_left.2 (Nat.gcd_dvd_left _ _))]
 ·rw [← Int.ofNat_tdiv]
theorem fshort_any (n : Int) (d : Nat) (w : World) (hn : n.natAbs < 9000000000000000000) (hd : d < 9000000000000000000) (hd0 : d ≠ 0) (ht : PT w) :
    Calls Tryz.prog 26 #[.int .i64 n, .int .i64 (d : Nat)] w (RetTx (mkRat n d) w) := by
  have hdn : decide ((d : Int) < 0) = false := dF (by omega); have HFI := zh (fun (z : Int) (hz : z.natAbs < 9000000000000000000) V (h : PT V) => fmti_any z (by omega) (by omega) V h)
  by_cases h1 : d = 1
  ·subst h1; have hq : mkRat n 1 = (n : Rat) := Rat.ext (by rw [Rat.num_mkRat]; simp) (by rw [Rat.den_mkRat]; simp); rw [hq]; have HQ := zh (qtx_int n); have HT := zh ht; clear hq ht hdn; unfold RetTx; go_enter Tryz.func26, Tryz.ntmps26; go_wp2_with (fail); refine (HFI.out n hn w HT.out).mono ?_; rintro e w2 ⟨rfl, hb⟩; go_wp2; go_ret; exact ⟨by rw [HQ.out]; rfl, hb⟩
  ·obtain ⟨g, hg⟩ := eqx (Nat.gcd n.natAbs d); obtain ⟨e1, e2⟩ := mk_parts n d hd0; obtain ⟨f1, f2, _⟩ := mk_num n d hd0; rw [hg] at e1 e2 f1 f2
   have hg0 : g ≠ 0 := by rw [← hg]; exact Nat.pos_iff_ne_zero.1 (Nat.gcd_pos_of_pos_right _ (by omega))
   have HG := zh (fun V => sgcd_big n.natAbs d V hn hd); rw [hg] at HG; obtain ⟨q, hq⟩ := eqx (mkRat n d); rw [hq] at e1 e2 f1 f2 ⊢
   have b1 : q.num.natAbs < 9000000000000000000 := by rw [f1]; exact Nat.lt_of_le_of_lt (Nat.div_le_self _ _) hn
   have b2 : q.den < 9000000000000000000 := by rw [f2]; exact Nat.lt_of_le_of_lt (Nat.div_le_self _ _) hd
   have gne : ((g : Int) == 0) = false := beq_eq_false_iff_ne.2 (by omega)
   have d1 : ((d : Int) != 1) = true := by simp; omega
   have w1 : IntKind.i64.wrap q.num = q.num := IntWalk.i64_in _ (by omega); have w2 : IntKind.i64.wrap (q.den : Int) = (q.den : Int) := IntWalk.i64_in _ (by omega); have HT := zh ht; have HI := zh (qtx_int q.num); have HFR := zh (qtx_frac (q := q)); have HW1 : Hid (q.den = 1 → qtx q = bs (Lib.itoa q.num)) := zh (fun h => by rw [← qtx_int, ← rat_whole h]); clear hg hq f1 f2 ht h1; unfold RetTx; generalize q.num = qn at *; generalize q.den = qd at *; generalize qtx q = T at *; obtain ⟨m, hm⟩ := eqx (n.natAbs); rw [hm] at HG hn; have w0 : IntKind.i64.wrap (-n) = -n := IntWalk.i64_in _ (by omega)
   have hmx : max n (-n) = (m : Int) := by omega
   clear hm; go_enter Tryz.func26, Tryz.ntmps26; go_wp2_with (fail); refine (HG.out _).mono ?_; rintro e w3 ⟨rfl, hb3⟩; have HT3 : Hid (∀ k, PT (w3.drewN k)) := zh (fun k => HT.out.keep (below_drewN hb3 k))
   by_cases hqd : qd = 1
   ·have q1 : ((qd : Int) == 1) = true := by simp [hqd]
    have q1' : (qd == 1) = true := by simp [hqd]
    have HF := zh (HW1.out hqd); clear hqd; go_wp2
    go_quiet (fail)
    go_wp2_with (fail); refine (HFI.out qn b1 _ (HT3.out _)).mono ?_; rintro e w4 ⟨rfl, hb4⟩; go_wp2; go_ret; exact ⟨by rw [HF.out]; rfl, hb3.trans ((below_of_drewN hb4).mono hb3.size)⟩
   ·have q1 : ((qd : Int) == 1) = false := by simp; omega
    have q1' : (qd == 1) = false := by simp; omega
    have HF := zh (HFR.out hqd); clear hqd HFI HG; go_wp2
    go_quiet (fail)
    go_wp2_with (fail); rw [alloc48]; have HTA := HT3.out nq; have hbq : Below w.heap.size w (w3.drewN nq) := below_drewN hb3 nq; have hgl := HTA.lt; have hws : (w3.drewN nq).heap.size = w3.heap.size := rfl; generalize w3.drewN nq = V at *; obtain ⟨W, hW⟩ := eqx (V.alloc (.cells z48 90))
    have hal : Below V.heap.size V W := by rw [← hW]; exact bal
    have hB0 : Buf W V.heap.size 90 48 [] := by rw [← hW]; exact ⟨_, Blk.new _ _ _, by simp [z48], rfl⟩
    have HTW := HTA.keep hal; obtain ⟨gB, hgB⟩ := eqx (w3.heap.size); rw [hgB] at hws; rw [hws] at hB0 hgl; have l1 := Lib.itoa_length_le qn (by omega) (by omega); have l2 := Lib.itoa_length_le (qd : Int) (by omega) (by omega); have HA1 := aint_any qn (by omega) (by omega) gB 48 90 [] W hB0 (by simp) HTW hgl; unfold RetBuf at HA1; rw [List.length_nil, Nat.zero_add, List.nil_append] at HA1
    have HA2 := fun V' h h2 => aint_any (qd : Int) (by omega) (by omega) gB 48 90 (Lib.byteCells (Lib.itoa qn) ++ [.int .u8 47]) V' h (by simp [Lib.byteCells]; omega) h2 hgl
    unfold RetBuf at HA2
    have hbl : (Lib.byteCells (Lib.itoa qn) ++ [Value.int .u8 47]).length = (Lib.itoa qn).length + 1 := by simp [Lib.byteCells]
    rw [hbl] at HA2
    have hxl : (Lib.byteCells (Lib.itoa qn)).length = (Lib.itoa qn).length := by simp [Lib.byteCells]
    have htot : (Lib.itoa qn ++ 47 :: Lib.itoa (qd : Int)).length = (Lib.itoa qn).length + 1 + (Lib.itoa (qd : Int)).length := by simp; omega
    have hcel : Lib.byteCells (Lib.itoa qn) ++ [Value.int .u8 47] ++ Lib.byteCells (Lib.itoa (qd : Int)) = Lib.byteCells (Lib.itoa qn ++ 47 :: Lib.itoa (qd : Int)) := by simp [Lib.byteCells]
    rw [hcel, ← htot] at HA2; rw [hW, hgB]; have HXL := zh hxl; have HTOT := zh htot; generalize Lib.itoa qn ++ 47 :: Lib.itoa (qd : Int) = L at *; generalize Lib.byteCells (Lib.itoa qn) = X1 at *; generalize (Lib.itoa qn).length = k1 at *; generalize (Lib.itoa (qd : Int)).length = k2 at *; have HA1 := zh HA1; have HA2 := zh HA2; have hbW := below_all hbq hal
    have hgw : w.heap.size ≤ gB := by rw [← hws]; exact hbq.size
    clear hW hB0 hbl hxl htot hcel hal hbq hb3 HT3 HT HTA HI HW1 HFR; refine HA1.out.mono ?_; rintro e w4 ⟨rfl, hB1, hT1⟩; have hpt1 := HTW.tk hT1 hgl; obtain ⟨W2, hW2⟩ := eqx (w4.alloc (.cells #[.int .u8 47] 5))
    have hal2 : Below w4.heap.size w4 W2 := by rw [← hW2]; exact bal
    have hcell : ∀ j v, [Value.int .u8 47][j]? = some v → W2.cell? ((⟨w4.heap.size, 0, none⟩ : Addr).add j) = some v := by rw [← hW2]; exact cells_new w4 5 [.int .u8 47]
    have hsrc := Src.ofSlice (P := Tryz.prog) (w := W2) (size := 1) (tx := 91) Tryz.underlying91 ⟨w4.heap.size, 0, none⟩ 1 1 [.int .u8 47] rfl hcell (by simp [Value.oneCell']); obtain ⟨hr, hB2, hT2⟩ := buf_append (hB1.keep hal2) 91 91 _ _ _ hsrc (by rw [HXL.out]; omega); rw [HXL.out] at hr hB2 hT2; have hpt2 := (hpt1.keep hal2).tk hT2 hgl; have HR := zh hr; have HW2 := zh hW2; have HAA := zh (HA2.out _ hB2 hpt2); have HTT := zh ((hT1.then hal2).trans hT2); clear hr hB2 hT2 hsrc hcell hW2 hal2 hpt2 hpt1 hT1 hB1
    go_wp2_with (at_builtin; rw [HW2.out]; refine wpList_append_run _ rfl _ _ 91 91 rfl _ _ HR.out ?_)
    refine HAA.out.mono ?_; rintro e w5 ⟨rfl, hB3, hT3⟩
    have hLl : L.length ≤ 48 := by have := HTOT.out; omega
    have hcv := run_convert_bytes_back (P := Tryz.prog) w5 91 9 5 ⟨gB, 0, none⟩ 48 L Tryz.underlying91 Tryz.underlying5 Tryz.underlying9 (hB3.cellAt hLl); have HLL := zh HTOT.out; have hBE : Hid (Below w.heap.size w w5) := zh (Tk.below hbW (HTT.out.trans hT3) hgw); have hll : L.length = k1 + 1 + k2 := HTOT.out; obtain ⟨kl, hkl⟩ := eqx (L.length); rw [hkl] at hcv ⊢; clear hll hkl hB3 hT3; go_wp2; go_ret; exact ⟨by rw [HF.out]; rfl, hBE.out⟩
end
end Go.Proofs.Tg.Fi
namespace Go.Proofs.Tg.Iw
section
open Go.RowKit Go.Bw Go.Gr Go.Proofs.Tg Go.Rq Go.Qn
open Go.Proofs.Tg.Fi (TxS TxR Buf RetTa RetBuf txs_append byte_src PT qtx_int qtx_frac fmti_any)
def RetI64 (z : Int) (w : World) (e : Ending) (w' : World) : Prop := ((e = .returned (.tuple #[.int .i64 z, .bool true]) ∧ -9223372036854775808 ≤ z ∧ z ≤ 9223372036854775807) ∨ e = .returned (.tuple #[.int .i64 0, .bool false])) ∧ Below w.heap.size w w'
theorem i64_zero (x : Bool) (X : Option Addr) (cx : Nat) (w : World) : Calls Tryz.prog 50 #[.agg #[.bool x, .slice X 0 cx]] w (RetI64 0 w) := by
 have hbW : Below w.heap.size w (w.alloc (.cells #[.bool x, .slice X 0 cx] 68)) := bal
 have b0 : (((0 : Nat) : Int) == 0) = true := by decide
 go_enter Tryz.func50, Tryz.ntmps50
 go_wp2
 go_ret2
 exact ⟨.inl ⟨rfl, by omega, by omega⟩, hbW⟩
theorem i64_long (z : Int) (x : Bool) (X : Option Addr) (cx n m : Nat) (w : World) (hc : ∃ ad, X = some ad ∧ w.cell? ad = some (.int .u64 (m : Nat))) (hn : 2 ≤ n) : Calls Tryz.prog 50 #[.agg #[.bool x, .slice X n cx]] w (RetI64 z w) := by
 obtain ⟨ad, rfl, hc⟩ := hc
 have hbW : Below w.heap.size w (w.alloc (.cells #[.bool x, .slice (some ad) n cx] 68)) := bal
 have c1 := cell_alloc hc (.cells #[.bool x, .slice (some ad) n cx] 68)
 have hl := World.block_lt_of_cell? w ad hc
 have b0 : ((n : Int) == 0) = false := beq_eq_false_iff_ne.2 (by omega)
 have b0' : (n == 0) = false := beq_eq_false_iff_ne.2 (by omega)
 have q1 : (0 : Int) < (n : Int) := by omega
 have d1 : decide ((1 : Int) < (n : Int)) = true := dT (by omega)
 have d1' : decide (1 < n) = true := dT (by omega)
 go_enter Tryz.func50, Tryz.ntmps50
 go_wp2
 go_ret2
 exact ⟨.inr rfl, hbW⟩
theorem i64_one (x : Bool) (X : Option Addr) (cx m : Nat) (w : World) (hc : ∃ ad, X = some ad ∧ w.cell? ad = some (.int .u64 (m : Nat))) (hm0 : m ≠ 0) (hm : m < 18446744073709551616) : Calls Tryz.prog 50 #[.agg #[.bool x, .slice X 1 cx]] w (RetI64 (if x then -(m : Int) else (m : Int)) w) := by
 obtain ⟨ad, rfl, hc⟩ := hc
 have hbW : Below w.heap.size w (w.alloc (.cells #[.bool x, .slice (some ad) 1 cx] 68)) := bal
 have c1 := cell_alloc hc (.cells #[.bool x, .slice (some ad) 1 cx] 68)
 have hl := World.block_lt_of_cell? w ad hc
 have b0 : (((1 : Nat) : Int) == 0) = false := by decide
 have d1 : decide ((1 : Int) < ((1 : Nat) : Int)) = false := by decide
 have y1 : IntKind.u64.wrap (-(m : Int)) = 18446744073709551616 - (m : Int) := by
  have e : IntKind.u64.wrap (-(m : Int)) = (-(m : Int)) % 18446744073709551616 := rfl; rw [e]; omega
 cases x
 ·by_cases h : m ≤ 9223372036854775807
  ·have d2 : decide ((m : Int) ≤ 9223372036854775807) = true := dT (by omega); have y3 : IntKind.i64.wrap (m : Int) = (m : Int) := IntWalk.i64_in _ (by omega); go_enter Tryz.func50, Tryz.ntmps50; go_wp2
   go_ret2
   exact ⟨.inl ⟨rfl, by first | omega | (simp; done) | (simp; omega), by first | omega | (simp; done) | (simp; omega)⟩, hbW⟩
  ·have d2 : decide ((m : Int) ≤ 9223372036854775807) = false := dF (by omega); go_enter Tryz.func50, Tryz.ntmps50; go_wp2
   go_ret2
   exact ⟨.inr rfl, hbW⟩
 ·by_cases h : m ≤ 9223372036854775808
  ·have d2 : decide ((m : Int) ≤ 9223372036854775808) = true := dT (by omega)
   have y2 : IntKind.i64.wrap (18446744073709551616 - (m : Int)) = -(m : Int) := by
    have e : (18446744073709551616 - (m : Int)) % 18446744073709551616 = 18446744073709551616 - (m : Int) := by omega
    unfold IntKind.wrap; simp [IntKind.signed, IntKind.bits, e]; omega
   go_enter Tryz.func50, Tryz.ntmps50; go_wp2
   go_ret2
   exact ⟨.inl ⟨rfl, by first | omega | (simp; done) | (simp; omega), by first | omega | (simp; done) | (simp; omega)⟩, hbW⟩
  ·have d2 : decide ((m : Int) ≤ 9223372036854775808) = false := dF (by omega); go_enter Tryz.func50, Tryz.ntmps50; go_wp2
   go_ret2
   exact ⟨.inr rfl, hbW⟩
theorem i64_z (z : Int) (X : Option Addr) (cx : Nat) (w : World) (hX : NW w X cx z.natAbs) : Calls Tryz.prog 50 #[.agg #[.bool (decide (z < 0)), .slice X (dg z.natAbs).length cx]] w (RetI64 z w) := by
 by_cases h0 : z = 0
 ·subst h0
  show Calls _ _ #[.agg #[_, .slice X (dg 0).length cx]] _ _
  rw [dg_zero]; exact i64_zero _ X cx w
 have hn0 : z.natAbs ≠ 0 := by omega
 have hp := dg_len_pos.2 hn0
 obtain ⟨ad, e, hc⟩ := Sets.at' hX.wds hp
 have hc' : w.cell? ad = some (.int .u64 ((dg z.natAbs)[0] : Nat)) := by simpa [Addr.add] using hc
 by_cases h1 : (dg z.natAbs).length = 1
 ·have hB : z.natAbs < 18446744073709551616 := by
   have := val_lt_dg z.natAbs
   rwa [h1, Nat.pow_one] at this
  have hd : (dg z.natAbs)[0] = z.natAbs := by
   have e := dg_small hn0 hB; simp [e]
  rw [hd] at hc'; have := i64_one (decide (z < 0)) X cx z.natAbs w ⟨ad, e, hc'⟩ hn0 hB; rw [h1]
  have e2 : (if decide (z < 0) = true then -(z.natAbs : Int) else (z.natAbs : Int)) = z := by
   by_cases h : z < 0
   ·rw [dT h, if_pos rfl]; omega
   ·rw [dF h, if_neg (by decide)]; omega
  rwa [e2] at this
 ·exact i64_long z _ X cx _ _ w ⟨ad, e, hc'⟩ (by omega)
theorem fromint_w (n : Int) (h0 : -9223372036854775808 ≤ n) (h1 : n ≤ 9223372036854775807) (w : World) (ht : PT w) : Calls Tryz.prog 51 #[.int .i64 n] w fun e w' => e = .returned (.string (bs (Lib.itoa n))) ∧ Below w.heap.size w w' := by
 have HF := zh (fmti_any n h0 h1 w ht)
 generalize bs (Lib.itoa n) = S at *
 clear ht
 go_enter Tryz.func51, Tryz.ntmps51
 go_wp2_with (go_at_call 42; refine HF.out.mono ?_; rintro e w' ⟨rfl, hb⟩)
 go_ret
 exact ⟨rfl, hb⟩
theorem itoa_len {z : Int} (h : (dg z.natAbs).length ≤ 79) : (Lib.itoa z).length ≤ 20000 := by
 have h2 := D_small (x := z.natAbs) (by omega) 0
 unfold Lib.itoa
 by_cases h0 : z.natAbs = 0
 ·have : z = 0 := by omega
  subst this; rw [if_neg (by decide)]; simp [Go.Qn.dec_zero]
 ·rw [Dt.D_pos h0] at h2
  split
  ·simp; omega
  ·rw [show z.toNat = z.natAbs by omega]; omega
structure RNum (w : World) (q : Rat) (N : Option Addr) (cn : Nat) (D : Option Addr) (cd : Nat) : Prop where
  num : NW w N cn q.num.natAbs
  den : NW w D cd (dnz q.den)
theorem RNum.keep {w w' : World} {q : Rat} {N D : Option Addr} {cn cd : Nat} (h : RNum w q N cn D cd) (hb : Below w.heap.size w w') : RNum w' q N cn D cd := ⟨h.num.keep hb, h.den.keep hb⟩
def rval (q : Rat) (N : Option Addr) (cn : Nat) (D : Option Addr) (cd : Nat) : Value := .agg #[.bool (decide (q.num < 0)), .slice N (dg q.num.natAbs).length cn, .bool false, .slice D (dg (dnz q.den)).length cd]
theorem rstr_whole (q : Rat) (N D : Option Addr) (cn cd : Nat) (w : World) (h : RNum w q N cn D cd) (h1 : q.den = 1) (hn : (dg q.num.natAbs).length ≤ 79) (ht : PT w) :
    Calls Tryz.prog 29 #[.agg #[.bool (decide (q.num < 0)), .slice N (dg q.num.natAbs).length cn, .bool false, .slice D 0 cd]] w fun e w' => e = .returned (.string (bs (Lib.itoa q.num))) ∧ Below w.heap.size w w' := by
  obtain ⟨W, hW⟩ := eqx (w.alloc (.cells #[.bool (decide (q.num < 0)), .slice N (dg q.num.natAbs).length cn, .bool false, .slice D 0 cd] 70))
  have hbW : Below w.heap.size w W := by rw [← hW]; exact bal
  have HBW := zh hbW
  have B0 : Blk W w.heap.size 70 #[.bool (decide (q.num < 0)), .slice N (dg q.num.natAbs).length cn, .bool false, .slice D 0 cd] := by rw [← hW]; exact Blk.new _ _ _
  have HB0 := zh B0; have HZ : Hid (∀ V, Calls Tryz.prog 45 #[.agg #[.bool false, .slice D 0 cd]] V fun e w' => e = .returned (.bool true) ∧ Below V.heap.size V w') := zh (fun V => iszero_any false D 0 cd V); have HI := zh (fun V (hb : Below W.heap.size W V) => i64_z q.num N cn V ((h.num.keep hbW).keep hb)); have HF := zh (fun V (hb : Below W.heap.size W V) h0 h1 => fromint_w q.num h0 h1 V ((ht.keep hbW).keep hb)); have HS := zh (fun V (hb : Below W.heap.size W V) => istr_w q.num N cn V ((h.num.keep hbW).keep hb) hn ((ht.keep hbW).keep hb)); unfold RetI64 at HI; have HWW := zh hW; clear hW hbW B0 h h1 hn ht; generalize decide (q.num < 0) = x at *; generalize (dg q.num.natAbs).length = nx at *; generalize bs (Lib.itoa q.num) = S at *; generalize q.num = z at *; obtain ⟨x0, x1, x2, x3, _, _, _, _⟩ := HB0.out.four; go_enter Tryz.func29, Tryz.ntmps29; go_upto_region 1 with (fail); rw [HWW.out]
  go_upto_region 2 with (go_at_call 45; refine (HZ.out _).mono ?_; rintro e w1 ⟨rfl, hb1⟩; have HB1 := zh hb1; have Y := HB0.out.keep hb1 HB0.out.lt; obtain ⟨x0, x1, x2, x3, _, _, _, _⟩ := Y.four; clear hb1 Y)
  go_wp2_with (fail); refine (HI.out _ HB1.out).mono ?_; rintro e w2 ⟨⟨rfl, h0, h1⟩ | rfl, hb2⟩
  ·have HB2 := zh (below_all HB1.out hb2); clear hb2
   go_wp2_with (go_at_call 51; refine (HF.out _ HB2.out h0 h1).mono ?_; rintro e w3 ⟨rfl, hb3⟩; have HB3 := zh (below_all HB2.out hb3); clear hb3)
   go_ret; exact ⟨rfl, below_all HBW.out HB3.out⟩
  ·have HB2 := zh (below_all HB1.out hb2); have Y := HB0.out.keep HB2.out HB0.out.lt; obtain ⟨x0, x1, x2, x3, _, _, _, _⟩ := Y.four; clear hb2 Y
   go_wp2_with (go_at_call 52; refine (HS.out _ HB2.out).mono ?_; rintro e w3 ⟨rfl, hb3⟩; have HB3 := zh (below_all HB2.out hb3); clear hb3)
   go_ret; exact ⟨rfl, below_all HBW.out HB3.out⟩
end
end Go.Proofs.Tg.Iw
