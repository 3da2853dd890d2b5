/- Parts of the proof: AT1. -/
import Derived.Test.YtpkompfkhoceoaaGreatDoorMMV24
section
/- The reference's value of a monomial at a point of integers. -/
namespace Go.Rq
/-- The product of powers of coordinates. -/
def prTo (x : List Rat) (m : List Int) : Nat → Rat
  | 0 => 1
  | k + 1 => prTo x m k * (x.getD k 0) ^ ((m.getD k 0).toNat)
end Go.Rq
namespace Go.Proofs.Tg
open Go.RowKit Go.Gr Go.Bn Go.Rq
open Go.Proofs.Tg.Fi (QsAt)
set_option maxHeartbeats 8000000
set_option maxRecDepth 100000
/-- The zero fraction. -/
def rz : RVal := ⟨0, none, 0, none, 0⟩
theorem rz_ok (w : World) : rz.Ok w := ⟨ND.zero w, ND.zero w⟩
theorem rz_parts : decide (rz.q.num < 0) = false ∧ (dg rz.q.num.natAbs).length = 0 ∧ (dg (dnz rz.q.den)).length = 0 := by
  refine ⟨rfl, ?_, ?_⟩
  · show (dg 0).length = 0; rw [dg_zero]; rfl
  · show (dg (dnz 1)).length = 0; rw [dnz_one, dg_zero]; rfl
theorem rz_blk {w : World} {g : Nat} (h : Blk w g 52 #[.bool false, .slice none 0 0, .bool false, .slice none 0 0]) : RBlk w g rz := by
  refine ⟨?_, rz_ok w⟩
  rw [rz_parts.1, rz_parts.2.1, rz_parts.2.2]
  exact h
/-- What the inner loop of At holds. -/
structure AtSt (w : World) (x : List Rat) (m : List Int) (v : Nat) (R : Addr) (cR g5 g7 : Nat) (wr : World) (k : Nat) (rt r5 : RVal) : Prop where
  below : Below w.heap.size w wr
  bt : RBlk wr g7 rt
  b5 : RBlk wr g5 r5
  b4 : Blk wr (w.heap.size + 1) 52 #[.bool false, .slice none 0 0, .bool false, .slice none 0 0]
  b2 : Blk wr w.heap.size 65 #[.int .i64 (v : Nat), .slice (some R) 1 cR]
  q : rt.q = prTo x m k
/-- What the outer loop of At holds: before its one round and behind it. -/
structure AtOut (w : World) (v : Nat) (R : Addr) (cR g5 : Nat) (wr : World) (r5 : RVal) (q : Rat) : Prop where
  below : Below w.heap.size w wr
  b5 : RBlk wr g5 r5
  b4 : Blk wr (w.heap.size + 1) 52 #[.bool false, .slice none 0 0, .bool false, .slice none 0 0]
  b2 : Blk wr w.heap.size 65 #[.int .i64 (v : Nat), .slice (some R) 1 cR]
  q : r5.q = q
theorem at_q (v : Nat) (x : List Rat) (rs : List RVal) (m : List Int) (X : Option Addr) (cx : Nat) (R : Addr) (cR : Nat) (r1 : RVal) (E : Option Addr) (cE : Nat) (w : World) (hX : QsAt w X rs) (hrx : rs.map RVal.q = x) (hxl : x.length = v) (hml : m.length = v) (hv : v ≤ 6)
    (hint : ∀ q ∈ x, ∃ z : Int, q = (z : Rat) ∧ z.natAbs ≤ 16) (hmb : ∀ e ∈ m, 0 ≤ e ∧ e ≤ 60) (hqs : ∀ k, k ≤ v → QS (prTo x m k))
    (hR : Sl w (some R) 1 5 (r1.cells ++ [.slice E v cE])) (hr1 : r1.q = 1) (hok : r1.Ok w) (hE : Ints w E m) :
    Calls Tryz.prog 53 #[.agg #[.int .i64 (v : Nat), .slice (some R) 1 cR], .slice X v cx] w (RetQ (prTo x m v) w) := by
  have HMU := Lib.hid (fun (p q : RVal) V (hp : p.Ok V) (hq : q.Ok V) (h1 : QS p.q) (h2 : QS q.q) => (rmul_q p.q q.q p.val q.val V hp.at hq.at h1 h2).mono fun _ _ h => h.rval)
  have HAD := Lib.hid (fun (p q : RVal) V (hp : p.Ok V) (hq : q.Ok V) (h1 : QS p.q) (h2 : QS q.q) => (radd_q p.q q.q p.val q.val V hp.at hq.at h1 h2).mono fun _ _ h => h.rval)
  have HPW := Lib.hid (fun (p : RVal) (z : Int) n V (hp : p.Ok V) (hz : p.q = (z : Rat)) (h1 : z.natAbs ≤ 16) (h2 : n ≤ 60) => (power_q z n p.val V (hz ▸ hp.at) h1 h2).mono fun _ _ h => h.rval)
  have HX := Lib.hid hX
  have HRX := Lib.hid hrx
  have HXL := Lib.hid hxl
  have HML := Lib.hid hml
  have HIN2 := Lib.hid hint
  have HMB := Lib.hid hmb
  have HQS := Lib.hid hqs
  have HE := Lib.hid hE
  have HR1 := Lib.hid hr1
  have HOK := Lib.hid hok
  obtain ⟨ad, had, hlt, ha⟩ := hR.lies (by omega)
  injection had with had
  subst had
  have off : ∀ i, (⟨R.block, R.off + (i + 1), none⟩ : Addr) = R.add (i + 1) := fun i => by simp [Addr.add]
  have k0 : w.cell? R = some (.bool (decide (r1.q.num < 0))) := by simpa [Addr.add] using ha 0 _ rfl
  have k1 := (congrArg w.cell? (off 0)).trans (ha 1 _ rfl)
  have k2 := (congrArg w.cell? (off 1)).trans (ha 2 _ rfl)
  have k3 := (congrArg w.cell? (off 2)).trans (ha 3 _ rfl)
  have k4 := (congrArg w.cell? (off 3)).trans (ha 4 _ rfl)
  clear hX hrx hxl hml hint hmb hqs hE hr1 hok ha off hR
  obtain ⟨W, hW⟩ : ∃ W, (w.alloc (.cells #[.int .i64 (v : Nat), .slice (some R) 1 cR] 65)).alloc (.cells #[.bool false, .slice none 0 0, .bool false, .slice none 0 0] 52) = W := ⟨_, rfl⟩
  have hbW : Below w.heap.size w W := by rw [← hW]; exact ((Below.refl _ _).alloc (Nat.le_refl _) _).alloc (by simp) _
  have HB2 : Hid (Blk W w.heap.size 65 #[.int .i64 (v : Nat), .slice (some R) 1 cR]) := Lib.hid (by rw [← hW]; exact (Blk.new _ _ _).alloc _)
  have HB4 : Hid (Blk W (w.heap.size + 1) 52 #[.bool false, .slice none 0 0, .bool false, .slice none 0 0]) := Lib.hid (by
    rw [← hW]
    have := Blk.new (w.alloc (.cells #[.int .i64 (v : Nat), .slice (some R) 1 cR] 65)) 52 #[.bool false, .slice none 0 0, .bool false, .slice none 0 0]
    simpa using this)
  have HBW := Lib.hid hbW
  have HWW := Lib.hid hW
  clear hW hbW
  go_enter Tryz.func53, Tryz.ntmps53
  go_upto_region 1 with (fail)
  rw [HWW.out]
  go_upto_region 2 with (fail)
  obtain ⟨g5, hg5⟩ : ∃ g, W.heap.size = g := ⟨_, rfl⟩
  have HO0 : Hid (AtOut w v R cR g5 (W.alloc (.cells #[.bool false, .slice none 0 0, .bool false, .slice none 0 0] 52)) rz 0) := Lib.hid (by
    rw [← hg5]
    exact ⟨HBW.out.alloc HBW.out.size _, rz_blk (Blk.new _ _ _), HB4.out.alloc _, HB2.out.alloc _, rfl⟩)
  have hg5w : w.heap.size + 1 < g5 := by rw [← hg5]; exact HB4.out.lt
  have hRl : R.block < w.heap.size := hlt
  rw [hg5]
  clear hg5 HB2 HB4 HBW HWW
  go_wp2
  go_loopw [6] (fun s6 wr => ∃ (i : Nat) (r5 : RVal), s6 = .int .i64 (i : Nat) ∧ i ≤ 1 ∧ Hid (AtOut w v R cR g5 wr r5 (if i = 0 then 0 else prTo x m v))) (fun s6 _ => 1 - (intOf s6).toNat)
  case atStart => exact ⟨0, rz, rfl, by omega, HO0⟩
  case round =>
    clear HO0
    obtain ⟨wo, rfl⟩ : ∃ wo : World, wo = wr := ⟨_, rfl⟩
    obtain ⟨i, r5, rfl, hi, HST⟩ := hrel
    obtain ⟨p0, p1, _, _⟩ := HST.out.b2.two
    by_cases hi1 : i = 1
    · subst hi1
      have hq := HST.out.q
      rw [if_neg (by decide)] at hq
      obtain ⟨u0, u1, u2, u3, f0, f1, f2, f3⟩ := HST.out.b5.b.four
      obtain ⟨z0, z1, z2, z3, h0, h1, h2, h3⟩ := HST.out.b4.four
      have HZB := Lib.hid HST.out.b4
      have HRES : Hid (RetQ (prTo x m v) w (.returned r5.val) ((((wo.setCell ⟨w.heap.size + 1, 0, none⟩ (.bool (decide (r5.q.num < 0)))).setCell ⟨w.heap.size + 1, 1, none⟩ (.slice r5.N (dg r5.q.num.natAbs).length r5.cn)).setCell ⟨w.heap.size + 1, 2, none⟩ (.bool false)).setCell ⟨w.heap.size + 1, 3, none⟩ (.slice r5.D (dg (dnz r5.q.den)).length r5.cd))) := Lib.hid (by
        have hp := RBlk.put HST.out.b4 HST.out.b5.ok
        refine ⟨_, rfl, ?_, Below.four HST.out.below (by omega)⟩
        have h3 := hp.ok.at
        rw [← hq]
        exact h3)
      unfold RVal.val at HRES
      clear hq
      generalize decide (r5.q.num < 0) = sy at *
      generalize (dg r5.q.num.natAbs).length = ny at *
      generalize (dg (dnz r5.q.den)).length = my at *
      generalize r5.N = Ny at *
      generalize r5.D = Dy at *
      generalize r5.cn = cny at *
      generalize r5.cd = cdy at *
      go_wp2
      obtain ⟨p0, p1, p2, p3, _⟩ := (blk_four (a' := .bool sy) (b' := .slice Ny ny cny) (c' := .bool false) (d' := .slice Dy my cdy) HZB.out).four
      exact bodyPost_ret (v := .agg #[.bool sy, .slice Ny ny cny, .bool false, .slice Dy my cdy]) (by simp [results, Tryz.results53, go_sem, p0, p1, p2, p3]) rfl HRES.out
    · obtain rfl : i = 0 := by omega
      have hq := HST.out.q
      rw [if_pos rfl] at hq
      have c0 := keep_cell HST.out.below k0
      have c1 := keep_cell HST.out.below k1
      have c2 := keep_cell HST.out.below k2
      have c3 := keep_cell HST.out.below k3
      have c4 := keep_cell HST.out.below k4
      have hwo : w.heap.size ≤ wo.heap.size := HST.out.below.size
      have hRo : R.block < wo.heap.size := by omega
      clear hi1
      go_upto_region 6 with (fail)
      obtain ⟨g7, hg7⟩ : ∃ g, wo.heap.size = g := ⟨_, rfl⟩
      have HIN : Hid (AtSt w x m v R cR g5 g7 (wo.alloc (.cells #[.bool (decide (r1.q.num < 0)), .slice r1.N (dg r1.q.num.natAbs).length r1.cn, .bool false, .slice r1.D (dg (dnz r1.q.den)).length r1.cd] 52)) 0 r1 r5) := Lib.hid (by
        have hal := Below.alloc (Below.refl wo.heap.size wo) (Nat.le_refl _) (.cells #[.bool (decide (r1.q.num < 0)), .slice r1.N (dg r1.q.num.natAbs).length r1.cn, .bool false, .slice r1.D (dg (dnz r1.q.den)).length r1.cd] 52)
        rw [← hg7]
        refine ⟨below_all HST.out.below hal, ⟨Blk.new _ _ _, (HOK.out.keep HST.out.below).keep hal⟩, HST.out.b5.keep hal, HST.out.b4.alloc _, HST.out.b2.alloc _, by rw [HR1.out]; rfl⟩)
      have h5lt := HST.out.b5.b.lt
      have HQ5 := Lib.hid hq
      rw [hg7] at h5lt hwo ⊢
      clear hg7 hq c0 c1 c2 c3 c4 p0 p1 hRo
      go_wp2
      go_loopw [8] (fun s8 wr => ∃ (k : Nat) (rt : RVal), s8 = .int .i64 (k : Nat) ∧ k ≤ v ∧ Hid (AtSt w x m v R cR g5 g7 wr k rt r5)) (fun s8 _ => v - (intOf s8).toNat)
      case atStart => exact ⟨0, r1, rfl, Nat.zero_le _, HIN⟩
      case round =>
        clear HIN HST
        obtain ⟨wi, rfl⟩ : ∃ wi : World, wi = wr := ⟨_, rfl⟩
        obtain ⟨k, rt, rfl, hk, HST⟩ := hrel
        obtain ⟨p0, p1, _, _⟩ := HST.out.b2.two
        have c0 := keep_cell HST.out.below k0
        have c1 := keep_cell HST.out.below k1
        have c2 := keep_cell HST.out.below k2
        have c3 := keep_cell HST.out.below k3
        have c4 := keep_cell HST.out.below k4
        by_cases hkv : k = v
        · have e1 : decide ((k : Int) < (v : Int)) = false := decide_eq_false (by omega)
          have e1' : decide (k < v) = false := decide_eq_false (by omega)
          have HKV := Lib.hid hkv
          clear hkv
          have hqt : QS rt.q := by rw [HST.out.q]; exact HQS.out _ (by omega)
          have hq5 : QS r5.q := by rw [HQ5.out]; exact ⟨by decide, by decide⟩
          have HAA := Lib.hid (HAD.out r5 rt wi HST.out.b5.ok HST.out.bt.ok hq5 hqt)
          unfold RVal.val at HAA
          obtain ⟨x0, x1, x2, x3, _, _, _, _⟩ := HST.out.bt.b.four
          obtain ⟨y0, y1, y2, y3, f0, f1, f2, f3⟩ := HST.out.b5.b.four
          have HFIN : Hid (∀ (w7 : World) (r7 : RVal), r7.q = r5.q + rt.q → r7.Ok w7 → Below wi.heap.size wi w7 → AtOut w v R cR g5 ((((w7.setCell ⟨g5, 0, none⟩ (.bool (decide (r7.q.num < 0)))).setCell ⟨g5, 1, none⟩ (.slice r7.N (dg r7.q.num.natAbs).length r7.cn)).setCell ⟨g5, 2, none⟩ (.bool false)).setCell ⟨g5, 3, none⟩ (.slice r7.D (dg (dnz r7.q.den)).length r7.cd)) r7 (if 1 = 0 then 0 else prTo x m v)) := Lib.hid (fun w7 r7 hq7 hok7 hb7 => by
            have h5 := HST.out.b5.keep hb7
            have h4 := HST.out.b4.keep hb7 HST.out.b4.lt
            have h2 := HST.out.b2.keep hb7 HST.out.b2.lt
            refine ⟨Below.four (below_all HST.out.below hb7) (by omega), RBlk.put h5.b hok7, ?_, ?_, ?_⟩
            · exact (((h4.far (by simp; omega) _).far (by simp; omega) _).far (by simp; omega) _).far (by simp; omega) _
            · exact (((h2.far (by simp; omega) _).far (by simp; omega) _).far (by simp; omega) _).far (by simp; omega) _
            · rw [if_neg (by decide), hq7, HQ5.out, HST.out.q, HKV.out, Rat.zero_add])
          have H5 := Lib.hid HST.out.b5
          clear hqt hq5
          generalize decide (r5.q.num < 0) = sy at *
          generalize (dg r5.q.num.natAbs).length = ny at *
          generalize (dg (dnz r5.q.den)).length = my at *
          generalize r5.N = Ny at *
          generalize r5.D = Dy at *
          generalize r5.cn = cny at *
          generalize r5.cd = cdy at *
          generalize decide (rt.q.num < 0) = st at *
          generalize (dg rt.q.num.natAbs).length = nt at *
          generalize (dg (dnz rt.q.den)).length = mt at *
          generalize rt.N = Nt at *
          generalize rt.D = Dt at *
          generalize rt.cn = cnt at *
          generalize rt.cd = cdt at *
          go_wp2_with (fail)
          refine HAA.out.mono ?_
          rintro e w7 ⟨r7, hq7, rfl, hok7, hb7⟩
          have HF7 := Lib.hid (HFIN.out w7 r7 hq7 hok7 hb7)
          obtain ⟨y0, y1, y2, y3, f0, f1, f2, f3⟩ := (H5.out.keep hb7).b.four
          try unfold RVal.val
          clear hq7 HAA HFIN
          go_wp2
          go_roundw
          case rel => exact ⟨1, r7, by go_num, by omega, HF7⟩
          case measure => simp [intOf]
        · have hkl : k < v := by omega
          have e1 : decide ((k : Int) < (v : Int)) = true := decide_eq_true (by omega)
          have e1' : decide (k < v) = true := decide_eq_true hkl
          have q0 : (0 : Int) ≤ (k : Int) := by omega
          have q1 : (k : Int) < (v : Int) := by omega
          have hkm : k < m.length := by rw [HML.out]; exact hkl
          have hkx : k < x.length := by rw [HXL.out]; exact hkl
          have hkr : k < rs.length := by have := congrArg List.length HRX.out; rw [List.length_map] at this; omega
          obtain ⟨ae, hAE, hce⟩ := Ints.at (HE.out.keep HST.out.below) hkm
          subst hAE
          obtain ⟨ek, hek⟩ : ∃ e : Nat, m[k] = (e : Int) := ⟨(m[k]).toNat, by have := (HMB.out _ (List.getElem_mem hkm)).1; omega⟩
          have hed : ek ≤ 60 := by have := (HMB.out _ (List.getElem_mem hkm)).2; omega
          rw [hek] at hce
          have hxk : rs[k].q = x[k] := by
            have h1 : (rs.map RVal.q)[k]? = x[k]? := by rw [HRX.out]
            simpa [hkr, hkx] using h1
          have HPS : Hid (prTo x m (k + 1) = prTo x m k * rs[k].q ^ ek) := Lib.hid (by
            show prTo x m k * (x.getD k 0) ^ ((m.getD k 0).toNat) = _
            have h1 : x.getD k 0 = x[k] := by simp [hkx]
            have h2 : (m.getD k 0).toNat = ek := by simp [hkm, hek]
            rw [h1, h2, hxk])
          have HINT := Lib.hid (HIN2.out x[k] (List.getElem_mem _))
          by_cases he0 : ek = 0
          · subst he0
            have e2 : decide ((0 : Int) < ((0 : Nat) : Int)) = false := rfl
            have HNX : Hid (AtSt w x m v R cR g5 g7 wi (k + 1) rt r5) := Lib.hid ⟨HST.out.below, HST.out.bt, HST.out.b5, HST.out.b4, HST.out.b2, by rw [HPS.out, Rat.pow_zero, Rat.mul_one]; exact HST.out.q⟩
            clear hek hxk hkv
            go_wp2
            go_roundw
            case rel => exact ⟨k + 1, rt, by go_num, by omega, HNX⟩
            case measure => simp [intOf]; omega
          · have e2 : decide ((0 : Int) < (ek : Int)) = true := decide_eq_true (by omega)
            have e2' : decide (0 < ek) = true := decide_eq_true (by omega)
            obtain ⟨az, hAZ, y0, y1, y2, y3⟩ := (HX.out.keep HST.out.below).at hkr
            subst hAZ
            obtain ⟨rk, hrk⟩ : ∃ r, rs[k] = r := ⟨_, rfl⟩
            have hrm : rk ∈ rs := by rw [← hrk]; exact List.getElem_mem _
            rw [hrk] at hxk HPS y0 y1 y3
            obtain ⟨z, hz1, hz2⟩ := HINT.out
            have hzk : rk.q = (z : Rat) := by rw [hxk, hz1]
            have hokk : rk.Ok wi := (HX.out.ok rk hrm).keep HST.out.below
            have HPO : Hid (∀ V, Below wi.heap.size wi V → Calls Tryz.prog 90 #[rk.val, .int .i64 (ek : Nat)] V fun e w' => ∃ r : RVal, r.q = (z : Rat) ^ ek ∧ e = .returned r.val ∧ r.Ok w' ∧ Below V.heap.size V w') := Lib.hid (fun V h => HPW.out rk z ek V (hokk.keep h) hzk hz2 hed)
            have hqt : QS rt.q := by rw [HST.out.q]; exact HQS.out _ (by omega)
            have HMM : Hid (∀ (V : World) (r : RVal), Below wi.heap.size wi V → r.Ok V → r.q = (z : Rat) ^ ek → Calls Tryz.prog 26 #[rt.val, r.val] V fun e w' => ∃ r' : RVal, r'.q = rt.q * r.q ∧ e = .returned r'.val ∧ r'.Ok w' ∧ Below V.heap.size V w') := Lib.hid (fun V r h hr hrq => HMU.out rt r V (HST.out.bt.ok.keep h) hr hqt (by rw [hrq]; exact int_bound hz2 (by omega)))
            have HNX : Hid (∀ (V : World) (r r' : RVal), Below wi.heap.size wi V → r.q = (z : Rat) ^ ek → r'.q = rt.q * r.q → r'.Ok V → AtSt w x m v R cR g5 g7 ((((V.setCell ⟨g7, 0, none⟩ (.bool (decide (r'.q.num < 0)))).setCell ⟨g7, 1, none⟩ (.slice r'.N (dg r'.q.num.natAbs).length r'.cn)).setCell ⟨g7, 2, none⟩ (.bool false)).setCell ⟨g7, 3, none⟩ (.slice r'.D (dg (dnz r'.q.den)).length r'.cd)) (k + 1) r' r5) := Lib.hid (fun V r r' h h1 h2 h3 => by
              have ht := HST.out.bt.keep h
              have h5 := HST.out.b5.keep h
              have h4 := HST.out.b4.keep h HST.out.b4.lt
              have hb2 := HST.out.b2.keep h HST.out.b2.lt
              refine ⟨Below.four (below_all HST.out.below h) (by omega), RBlk.put ht.b h3, h5.oth ht.b (by omega), ?_, ?_, ?_⟩
              · exact (((h4.far (by simp; omega) _).far (by simp; omega) _).far (by simp; omega) _).far (by simp; omega) _
              · exact (((hb2.far (by simp; omega) _).far (by simp; omega) _).far (by simp; omega) _).far (by simp; omega) _
              · rw [h2, h1, HST.out.q, HPS.out, hzk])
            obtain ⟨t0, t1, t2, t3, f0, f1, f2, f3⟩ := HST.out.bt.b.four
            have HT := Lib.hid HST.out.bt
            have hbe : Below wi.heap.size wi wi.drew := (Below.refl _ _).drew
            have t7lt := HST.out.bt.b.lt
            clear hek hxk hkv hz1 hz2 hzk hokk hqt hrk hrm HINT
            unfold RVal.val at HPO HMM
            generalize decide (rk.q.num < 0) = sk at *
            generalize (dg rk.q.num.natAbs).length = nk at *
            generalize (dg (dnz rk.q.den)).length = mk at *
            generalize rk.N = Nk at *
            generalize rk.D = Dk at *
            generalize rk.cn = cnk at *
            generalize rk.cd = cdk at *
            generalize decide (rt.q.num < 0) = st at *
            generalize (dg rt.q.num.natAbs).length = nt at *
            generalize (dg (dnz rt.q.den)).length = mt at *
            generalize rt.N = Nt at *
            generalize rt.D = Dt at *
            generalize rt.cn = cnt at *
            generalize rt.cd = cdt at *
            go_upto_region 10 with (fail)
            go_region_with
              (first
                | (go_at_call 90; with_reducible refine Calls.mono (HPO.out _ (by assumption)) ?_; rintro e w7 ⟨r3, hq3, rfl, hok3, hb7⟩; have HQ3 := Lib.hid hq3; clear hq3; have hbe := below_all hbe hb7; have c4 := keep_cell hbe c4; have p1 := keep_cell hbe p1; have hce := keep_cell hbe hce; have y0 := keep_cell hbe y0; have y1 := keep_cell hbe y1; have y2 := keep_cell hbe y2; have y3 := keep_cell hbe y3; have t0 := keep_cell hbe t0; have t1 := keep_cell hbe t1; have t2 := keep_cell hbe t2; have t3 := keep_cell hbe t3; have Y := HT.out.keep hbe; obtain ⟨_, _, _, _, f0, f1, f2, f3⟩ := Y.b.four; try unfold RVal.val)
                | (go_at_call 26; with_reducible refine Calls.mono (HMM.out _ r3 (by assumption) hok3 HQ3.out) ?_; rintro e w8 ⟨r4, hq4, rfl, hok4, hb8⟩; have HQ4 := Lib.hid hq4; clear hq4; have hbe := below_all hbe hb8; have t0 := keep_cell hb8 t0; have t1 := keep_cell hb8 t1; have t2 := keep_cell hb8 t2; have t3 := keep_cell hb8 t3; have Y := HT.out.keep hbe; obtain ⟨_, _, _, _, f0, f1, f2, f3⟩ := Y.b.four; try unfold RVal.val))
            all_goals
              go_wp2
              go_roundw
              case rel => exact ⟨k + 1, r4, by go_num, by omega, Lib.hid (HNX.out w8 r3 r4 hbe HQ3.out HQ4.out hok4)⟩
              case measure => simp [intOf]; omega
end Go.Proofs.Tg
end
