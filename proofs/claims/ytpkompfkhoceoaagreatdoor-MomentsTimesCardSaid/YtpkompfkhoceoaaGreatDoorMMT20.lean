/- Parts of the proof: PW1. -/
import Derived.Test.YtpkompfkhoceoaaGreatDoorMMT14
section
/- The reference's powers of integers. -/
namespace Go.Proofs.Tg
open Go.RowKit Go.Gr Go.Bn Go.Rq
set_option maxHeartbeats 8000000
set_option maxRecDepth 100000
/-- A block that holds a rational number. -/
structure RBlk (w : World) (g : Nat) (r : RVal) : Prop where
  b : Blk w g 52 #[.bool (decide (r.q.num < 0)), .slice r.N (dg r.q.num.natAbs).length r.cn, .bool false, .slice r.D (dg (dnz r.q.den)).length r.cd]
  ok : r.Ok w
theorem RBlk.keep {w w' : World} {g : Nat} {r : RVal} (h : RBlk w g r) (hb : Below w.heap.size w w') : RBlk w' g r := ⟨h.b.keep hb h.b.lt, h.ok.keep hb⟩
theorem int_bound {z : Int} {s : Nat} (hz : z.natAbs ≤ 16) (hs : s ≤ 128) : QS ((z : Rat) ^ s) := by
  have e : (z : Rat) ^ s = ((z ^ s : Int) : Rat) := by rw [Rat.intCast_pow]
  rw [e]
  refine ⟨?_, (by show 1 < 65536; decide)⟩
  show (z ^ s).natAbs < B ^ 40
  rw [Int.natAbs_pow]
  refine Nat.lt_of_le_of_lt (Nat.pow_le_pow_left hz s) ?_
  exact Nat.lt_of_le_of_lt (Nat.pow_le_pow_right (by omega) hs) (by decide)
theorem RetQ.rval {q : Rat} {w : World} {e : Ending} {w' : World} (h : RetQ q w e w') : ∃ r : RVal, r.q = q ∧ e = .returned r.val ∧ r.Ok w' ∧ Below w.heap.size w w' := by
  obtain ⟨v, rfl, hv, hb⟩ := h
  obtain ⟨r, h1, rfl, h3⟩ := hv.rval
  exact ⟨r, h1, rfl, h3, hb⟩
theorem rat_pow_add (q : Rat) (a : Nat) : ∀ b, q ^ (a + b) = q ^ a * q ^ b
  | 0 => by rw [Nat.add_zero, Rat.pow_zero, Rat.mul_one]
  | b + 1 => by rw [← Nat.add_assoc, Rat.pow_succ, rat_pow_add q a b, Rat.pow_succ, Rat.mul_assoc]
theorem RVal.Ok.four {V : World} {g : Nat} {r : RVal} {cs : Array Value} {a' b' c' d' : Value} {t : TypeId} (h : r.Ok V) (B : Blk V g t cs) (hne : t ≠ 137) : r.Ok ((((V.setCell ⟨g, 0, none⟩ a').setCell ⟨g, 1, none⟩ b').setCell ⟨g, 2, none⟩ c').setCell ⟨g, 3, none⟩ d') := ⟨h.num.four B hne, h.den.four B hne⟩
theorem RBlk.put {V : World} {g : Nat} {r : RVal} {a b c d : Value} (B : Blk V g 52 #[a, b, c, d]) (ok : r.Ok V) : RBlk ((((V.setCell ⟨g, 0, none⟩ (.bool (decide (r.q.num < 0)))).setCell ⟨g, 1, none⟩ (.slice r.N (dg r.q.num.natAbs).length r.cn)).setCell ⟨g, 2, none⟩ (.bool false)).setCell ⟨g, 3, none⟩ (.slice r.D (dg (dnz r.q.den)).length r.cd)) g r :=
  ⟨blk_four B, ok.four B (by decide)⟩
theorem RBlk.oth {V : World} {g g' : Nat} {r : RVal} {cs : Array Value} {a' b' c' d' : Value} (h : RBlk V g' r) (B : Blk V g 52 cs) (hne : g' ≠ g) : RBlk ((((V.setCell ⟨g, 0, none⟩ a').setCell ⟨g, 1, none⟩ b').setCell ⟨g, 2, none⟩ c').setCell ⟨g, 3, none⟩ d') g' r :=
  ⟨(((h.b.far (by simpa using hne) _).far (by simpa using hne) _).far (by simpa using hne) _).far (by simpa using hne) _, h.ok.four B (by decide)⟩
/-- What the loop of Power holds. -/
structure PwrSt (w : World) (z : Int) (n g5 : Nat) (wr : World) (e s r : Nat) (rx ry : RVal) : Prop where
  below : Below w.heap.size w wr
  bx : RBlk wr w.heap.size rx
  by_ : RBlk wr g5 ry
  bz : Blk wr (w.heap.size + 1) 52 #[.bool false, .slice none 0 0, .bool false, .slice none 0 0]
  qx : rx.q = (z : Rat) ^ s
  qy : ry.q = (z : Rat) ^ r
  sum : r + s * e = n
  sle : s ≤ 2 * n + 1
  slt : 0 < e → s ≤ n
theorem power_q (z : Int) (n : Nat) (v : Value) (w : World) (hv : QAt w v (z : Rat)) (hz : z.natAbs ≤ 16) (hn : n ≤ 60) :
    Calls Tryz.prog 90 #[v, .int .i64 (n : Nat)] w (RetQ ((z : Rat) ^ n) w) := by
  obtain ⟨r0, hr0, rfl, hok0⟩ := hv.rval
  have HMU := Lib.hid (fun (p q : RVal) V (hp : p.Ok V) (hq : q.Ok V) (h1 : QS p.q) (h2 : QS q.q) => (rmul_q p.q q.q p.val q.val V hp.at hq.at h1 h2).mono fun _ _ h => h.rval)
  have HIB := Lib.hid (fun s (h : s ≤ 128) => int_bound hz h)
  obtain ⟨W, hW⟩ : ∃ W, (w.alloc (.cells #[.bool (decide (r0.q.num < 0)), .slice r0.N (dg r0.q.num.natAbs).length r0.cn, .bool false, .slice r0.D (dg (dnz r0.q.den)).length r0.cd] 52)).alloc (.cells #[.bool false, .slice none 0 0, .bool false, .slice none 0 0] 52) = W := ⟨_, rfl⟩
  have hbW : Below w.heap.size w W := by rw [← hW]; exact ((Below.refl _ _).alloc (Nat.le_refl _) _).alloc (by simp) _
  have hX : RBlk W w.heap.size r0 := ⟨by rw [← hW]; exact (Blk.new _ _ _).alloc _, hok0.keep hbW⟩
  have hZ : Blk W (w.heap.size + 1) 52 #[.bool false, .slice none 0 0, .bool false, .slice none 0 0] := by
    rw [← hW]
    have := Blk.new (w.alloc (.cells #[.bool (decide (r0.q.num < 0)), .slice r0.N (dg r0.q.num.natAbs).length r0.cn, .bool false, .slice r0.D (dg (dnz r0.q.den)).length r0.cd] 52)) 52 #[.bool false, .slice none 0 0, .bool false, .slice none 0 0]
    simpa using this
  have HR1 := Lib.hid (fun V => (r_q 1 (by decide) (by decide) V).mono fun _ _ h => h.rval)
  have HX := Lib.hid hX
  have HZ := Lib.hid hZ
  have HBW := Lib.hid hbW
  have HWW := Lib.hid hW
  have HR0 := Lib.hid hr0
  clear hW hX hZ hok0 hr0 hv
  try unfold RVal.val
  generalize hs1 : decide (r0.q.num < 0) = s1 at *
  generalize hn1 : (dg r0.q.num.natAbs).length = n1 at *
  generalize hn2 : (dg (dnz r0.q.den)).length = n2 at *
  clear hs1 hn1 hn2
  go_enter Tryz.func90, Tryz.ntmps90
  go_upto_region 1 with (fail)
  rw [HWW.out]
  go_wp2_with (fail)
  refine (HR1.out W).mono ?_
  rintro e w1 ⟨r1, hq1, rfl, hok1, hb1⟩
  have HST : Hid (∀ W1, W1 = w1.alloc (.cells #[.bool (decide (r1.q.num < 0)), .slice r1.N (dg r1.q.num.natAbs).length r1.cn, .bool false, .slice r1.D (dg (dnz r1.q.den)).length r1.cd] 52) → PwrSt w z n w1.heap.size W1 n 1 0 r0 r1) := Lib.hid (fun W1 e => by
    subst e
    have hal := Below.alloc (Below.refl w1.heap.size w1) (Nat.le_refl _) (.cells #[.bool (decide (r1.q.num < 0)), .slice r1.N (dg r1.q.num.natAbs).length r1.cn, .bool false, .slice r1.D (dg (dnz r1.q.den)).length r1.cd] 52)
    refine ⟨below_all (below_all HBW.out hb1) hal, (HX.out.keep hb1).keep hal, ⟨Blk.new _ _ _, hok1.keep hal⟩, (HZ.out.keep hb1 HZ.out.lt).alloc _, ?_, ?_, by omega, by omega, fun h => h⟩
    · rw [HR0.out, Rat.pow_one]
    · rw [hq1, Rat.pow_zero]; rfl)
  have hg5 : w.heap.size + 1 < w1.heap.size := by have := HZ.out.lt; have := hb1.size; omega
  have hwz : w.heap.size < w1.heap.size := by omega
  clear hok1 hb1 hq1 HX HZ HR1
  try unfold RVal.val
  generalize decide (r1.q.num < 0) = s2 at *
  generalize (dg r1.q.num.natAbs).length = m1 at *
  generalize (dg (dnz r1.q.den)).length = m2 at *
  generalize r1.N = rN1 at *
  generalize r1.D = rD1 at *
  generalize r1.cn = rcn1 at *
  generalize r1.cd = rcd1 at *
  go_wp2
  obtain ⟨g5, hg5e⟩ : ∃ g, w1.heap.size = g := ⟨_, rfl⟩
  rw [hg5e] at HST hg5 hwz ⊢
  go_loopw [1] (fun st wr => ∃ (e0 s0 k0 : Nat) (rx ry : RVal), st = .int .i64 (e0 : Nat) ∧ e0 ≤ n ∧ Hid (PwrSt w z n g5 wr e0 s0 k0 rx ry)) (fun st _ => (intOf st).toNat)
  case atStart => exact ⟨n, 1, 0, r0, r1, rfl, Nat.le_refl _, Lib.hid (HST.out _ rfl)⟩
  case round =>
    clear HST hg5e
    obtain ⟨wo, rfl⟩ : ∃ wo : World, wo = wr := ⟨_, rfl⟩
    obtain ⟨e0, s0, k0, rx, ry, rfl, he, HST⟩ := hrel
    by_cases h0 : e0 = 0
    · subst h0
      have hk : k0 = n := by have := HST.out.sum; simpa using this
      have hY := HST.out.by_
      have hZ := HST.out.bz
      obtain ⟨u0, u1, u2, u3, f0, f1, f2, f3⟩ := hY.b.four
      obtain ⟨z0, z1, z2, z3, g0, g1, g2, g3⟩ := hZ.four
      have HZB := Lib.hid hZ
      have HRES : Hid (RetQ ((z : Rat) ^ n) w (.returned ry.val) ((((wo.setCell ⟨w.heap.size + 1, 0, none⟩ (.bool (decide (ry.q.num < 0)))).setCell ⟨w.heap.size + 1, 1, none⟩ (.slice ry.N (dg ry.q.num.natAbs).length ry.cn)).setCell ⟨w.heap.size + 1, 2, none⟩ (.bool false)).setCell ⟨w.heap.size + 1, 3, none⟩ (.slice ry.D (dg (dnz ry.q.den)).length ry.cd))) := Lib.hid (by
        have hp := RBlk.put hZ hY.ok
        refine ⟨_, rfl, ?_, Below.four HST.out.below (by omega)⟩
        have h3 := hp.ok.at
        have e1 : (z : Rat) ^ n = ry.q := by rw [HST.out.qy, hk]
        rw [e1]
        exact h3)
      unfold RVal.val at HRES
      clear hY hZ hk
      generalize decide (ry.q.num < 0) = sy at *
      generalize (dg ry.q.num.natAbs).length = ny at *
      generalize (dg (dnz ry.q.den)).length = my at *
      generalize ry.N = Ny at *
      generalize ry.D = Dy at *
      generalize ry.cn = cny at *
      generalize ry.cd = cdy at *
      go_wp2
      obtain ⟨p0, p1, p2, p3, _⟩ := (blk_four (a' := .bool sy) (b' := .slice Ny ny cny) (c' := .bool false) (d' := .slice Dy my cdy) HZB.out).four
      exact bodyPost_ret (v := .agg #[.bool sy, .slice Ny ny cny, .bool false, .slice Dy my cdy]) (by simp [results, Tryz.results90, go_sem, p0, p1, p2, p3]) rfl HRES.out
    · have he0 : 0 < e0 := by omega
      have hsl := HST.out.slt he0
      have d0 : decide ((0 : Int) < (e0 : Int)) = true := decide_eq_true (by omega)
      have d0' : decide (0 < e0) = true := decide_eq_true he0
      have hkn : k0 ≤ n := by have := HST.out.sum; omega
      have hqx : QS rx.q := by rw [HST.out.qx]; exact HIB.out _ (by omega)
      have hqy : QS ry.q := by rw [HST.out.qy]; exact HIB.out _ (by omega)
      have hmod : Int.tmod (e0 : Int) 2 = ((e0 % 2 : Nat) : Int) := by rw [show (2 : Int) = ((2 : Nat) : Int) from rfl, Int.ofNat_tmod]
      have hdiv : Int.tdiv (e0 : Int) 2 = ((e0 / 2 : Nat) : Int) := by rw [show (2 : Int) = ((2 : Nat) : Int) from rfl, ← Int.ofNat_tdiv]
      have hw1 : IntKind.i64.wrap ((e0 / 2 : Nat) : Int) = ((e0 / 2 : Nat) : Int) := IntWalk.i64_in _ (by omega)
      have hw2 : IntKind.i64.wrap ((e0 % 2 : Nat) : Int) = ((e0 % 2 : Nat) : Int) := IntWalk.i64_in _ (by omega)
      obtain ⟨eh, heh⟩ : ∃ x, e0 / 2 = x := ⟨_, rfl⟩
      rw [heh] at hdiv hw1
      have hel : eh < e0 := by omega
      have HX := Lib.hid HST.out.bx
      have HY := Lib.hid HST.out.by_
      obtain ⟨x0, x1, x2, x3, h0', h1', h2', h3'⟩ := HST.out.bx.b.four
      have hgx : w.heap.size ≠ g5 := by omega
      have hgz : w.heap.size + 1 ≠ g5 := by omega
      by_cases hpar : e0 % 2 = 1
      · have hm1 : e0 % 2 = 1 := by omega
        rw [hm1] at hmod hw2
        have h1b : ((1 : Int) == 1) = true := rfl
        obtain ⟨y0, y1, y2, y3, k0', k1', k2', k3'⟩ := HST.out.by_.b.four
        have HYX := Lib.hid (HMU.out ry rx wo HST.out.by_.ok HST.out.bx.ok hqy hqx)
        have HXX := Lib.hid (fun V (h : rx.Ok V) => HMU.out rx rx V h h hqx hqx)
        have HA : Hid (∀ (w3 : World) (r3 : RVal), r3.q = ry.q * rx.q → r3.Ok w3 → Below wo.heap.size wo w3 → ∀ W3, W3 = ((((w3.setCell ⟨g5, 0, none⟩ (.bool (decide (r3.q.num < 0)))).setCell ⟨g5, 1, none⟩ (.slice r3.N (dg r3.q.num.natAbs).length r3.cn)).setCell ⟨g5, 2, none⟩ (.bool false)).setCell ⟨g5, 3, none⟩ (.slice r3.D (dg (dnz r3.q.den)).length r3.cd)) → RBlk W3 w.heap.size rx ∧ RBlk W3 g5 r3 ∧ Below w.heap.size w W3 ∧ Blk W3 (w.heap.size + 1) 52 #[.bool false, .slice none 0 0, .bool false, .slice none 0 0] ∧ r3.q = (z : Rat) ^ (k0 + s0)) := Lib.hid (fun w3 r3 hq3 hok3 hb3 W3 e3 => by
          subst e3
          have hY3 := HST.out.by_.keep hb3
          have hX3 := HST.out.bx.keep hb3
          have hZ3 := HST.out.bz.keep hb3 HST.out.bz.lt
          refine ⟨hX3.oth hY3.b hgx, RBlk.put hY3.b hok3, Below.four (below_all HST.out.below hb3) (by omega), ?_, ?_⟩
          · exact (((hZ3.far (by simpa using hgz) _).far (by simpa using hgz) _).far (by simpa using hgz) _).far (by simpa using hgz) _
          · rw [hq3, HST.out.qy, HST.out.qx, ← rat_pow_add])
        have HB : Hid (∀ (W3 w5 : World) (r3 r5 : RVal), RBlk W3 w.heap.size rx → RBlk W3 g5 r3 → Below w.heap.size w W3 → Blk W3 (w.heap.size + 1) 52 #[.bool false, .slice none 0 0, .bool false, .slice none 0 0] → r3.q = (z : Rat) ^ (k0 + s0) → r5.q = rx.q * rx.q → r5.Ok w5 → Below W3.heap.size W3 w5 → PwrSt w z n g5 ((((w5.setCell ⟨w.heap.size, 0, none⟩ (.bool (decide (r5.q.num < 0)))).setCell ⟨w.heap.size, 1, none⟩ (.slice r5.N (dg r5.q.num.natAbs).length r5.cn)).setCell ⟨w.heap.size, 2, none⟩ (.bool false)).setCell ⟨w.heap.size, 3, none⟩ (.slice r5.D (dg (dnz r5.q.den)).length r5.cd)) eh (s0 + s0) (k0 + s0) r5 r3) := Lib.hid (fun W3 w5 r3 r5 a1 a2 a3 a4 a5 a6 a7 hb5 => by
          have hX5 := a1.keep hb5
          have hY5 := a2.keep hb5
          refine ⟨Below.four (below_all a3 hb5) (Nat.le_refl _), RBlk.put hX5.b a7, hY5.oth hX5.b (by omega), ?_, ?_, a5, ?_, by omega, ?_⟩
          · have hz := a4.keep hb5 a4.lt
            exact (((hz.far (by simp) _).far (by simp) _).far (by simp) _).far (by simp) _
          · rw [a6, HST.out.qx, ← rat_pow_add]
          · have h1 := HST.out.sum
            have h2 : e0 = 2 * eh + 1 := by omega
            rw [h2, Nat.mul_add, ← Nat.mul_assoc] at h1
            rw [← h1, Nat.add_mul, Nat.mul_comm s0 2, Nat.mul_assoc 2 s0 eh, Nat.mul_one]
            omega
          · intro h
            have h1 := HST.out.sum
            have h2 : s0 * 2 ≤ s0 * e0 := Nat.mul_le_mul_left _ (by omega)
            omega)
        have HXO := Lib.hid HST.out.bx.ok
        clear hqx hqy h0
        unfold RVal.val at HYX HXX
        generalize decide (ry.q.num < 0) = sy at *
        generalize (dg ry.q.num.natAbs).length = ny at *
        generalize (dg (dnz ry.q.den)).length = my at *
        generalize ry.N = Ny at *
        generalize ry.D = Dy at *
        generalize ry.cn = cny at *
        generalize ry.cd = cdy at *
        generalize hsx : decide (rx.q.num < 0) = sx at *
        generalize hnx : (dg rx.q.num.natAbs).length = nx at *
        generalize hmx : (dg (dnz rx.q.den)).length = mx at *
        generalize hNx : rx.N = Nx at *
        generalize hDx : rx.D = Dx at *
        generalize hcnx : rx.cn = cnx at *
        generalize hcdx : rx.cd = cdx at *
        have HSX := Lib.hid (And.intro hsx (And.intro hnx (And.intro hmx (And.intro hNx (And.intro hDx (And.intro hcnx hcdx))))))
        clear hsx hnx hmx hNx hDx hcnx hcdx
        go_wp2_with (fail)
        refine HYX.out.mono ?_
        rintro e w3 ⟨r3, hq3, rfl, hok3, hb3⟩
        have hA := Lib.hid (HA.out w3 r3 hq3 hok3 hb3)
        have hY3 := HY.out.keep hb3
        clear hq3
        clear x0 x1 x2 x3 h0' h1' h2' h3' y0 y1 y2 y3 k0' k1' k2' k3' HYX
        have hC := hY3.b
        obtain ⟨y0, y1, y2, y3, k0', k1', k2', k3'⟩ := hC.four
        clear hC
        try unfold RVal.val
        go_upto_region 5 with (fail)
        obtain ⟨W3, hW3⟩ : ∃ W3, ((((w3.setCell ⟨g5, 0, none⟩ (.bool (decide (r3.q.num < 0)))).setCell ⟨g5, 1, none⟩ (.slice r3.N (dg r3.q.num.natAbs).length r3.cn)).setCell ⟨g5, 2, none⟩ (.bool false)).setCell ⟨g5, 3, none⟩ (.slice r3.D (dg (dnz r3.q.den)).length r3.cd)) = W3 := ⟨_, rfl⟩
        have hA2 := hA.out W3 hW3.symm
        rw [hW3]
        obtain ⟨a1, a2, a3, a4, a5⟩ := hA2
        have HPX := Lib.hid (HXX.out W3 a1.ok)
        have HBB := Lib.hid (fun w5 r5 e6 e7 e8 => HB.out W3 w5 r3 r5 a1 a2 a3 a4 a5 e6 e7 e8)
        obtain ⟨x0, x1, x2, x3, h0', h1', h2', h3'⟩ := a1.b.four
        rw [HSX.out.1] at x0
        rw [HSX.out.2.1, HSX.out.2.2.2.1, HSX.out.2.2.2.2.2.1] at x1
        rw [HSX.out.2.2.1, HSX.out.2.2.2.2.1, HSX.out.2.2.2.2.2.2] at x3
        have HA1 := Lib.hid a1
        clear hW3 hA HA a2 a3 a4 a5 hY3 y0 y1 y2 y3 k0' k1' k2' k3' a1 HXX HB hok3 hb3
        go_wp2_with (fail)
        refine HPX.out.mono ?_
        rintro e w5 ⟨r5, hq5, rfl, hok5, hb5⟩
        have hD := HA1.out.b.keep hb5 HA1.out.b.lt
        obtain ⟨x0, x1, x2, x3, h0', h1', h2', h3'⟩ := hD.four
        have HFIN := Lib.hid (HBB.out w5 r5 hq5 hok5 hb5)
        try unfold RVal.val
        clear hD HBB HPX hq5
        go_wp2
        go_roundw
        case rel => exact ⟨eh, s0 + s0, k0 + s0, r5, r3, rfl, by omega, HFIN⟩
        case measure => simp [intOf]; omega
      · have hm1 : e0 % 2 = 0 := by omega
        rw [hm1] at hmod hw2
        have h1b : ((0 : Int) == 1) = false := rfl
        have HXX := Lib.hid (fun V (h : rx.Ok V) => HMU.out rx rx V h h hqx hqx)
        have HB : Hid (∀ (W3 w5 : World) (r3 r5 : RVal), RBlk W3 w.heap.size rx → RBlk W3 g5 r3 → Below w.heap.size w W3 → Blk W3 (w.heap.size + 1) 52 #[.bool false, .slice none 0 0, .bool false, .slice none 0 0] → r3.q = (z : Rat) ^ k0 → r5.q = rx.q * rx.q → r5.Ok w5 → Below W3.heap.size W3 w5 → PwrSt w z n g5 ((((w5.setCell ⟨w.heap.size, 0, none⟩ (.bool (decide (r5.q.num < 0)))).setCell ⟨w.heap.size, 1, none⟩ (.slice r5.N (dg r5.q.num.natAbs).length r5.cn)).setCell ⟨w.heap.size, 2, none⟩ (.bool false)).setCell ⟨w.heap.size, 3, none⟩ (.slice r5.D (dg (dnz r5.q.den)).length r5.cd)) eh (s0 + s0) k0 r5 r3) := Lib.hid (fun W3 w5 r3 r5 a1 a2 a3 a4 a5 a6 a7 hb5 => by
          have hX5 := a1.keep hb5
          have hY5 := a2.keep hb5
          refine ⟨Below.four (below_all a3 hb5) (Nat.le_refl _), RBlk.put hX5.b a7, hY5.oth hX5.b (by omega), ?_, ?_, a5, ?_, by omega, ?_⟩
          · have hz := a4.keep hb5 a4.lt
            exact (((hz.far (by simp) _).far (by simp) _).far (by simp) _).far (by simp) _
          · rw [a6, HST.out.qx, ← rat_pow_add]
          · have h1 := HST.out.sum
            have h2 : e0 = 2 * eh := by omega
            rw [h2] at h1
            rw [← h1, ← Nat.two_mul, Nat.mul_comm 2 s0, Nat.mul_assoc]
          · intro h
            have h1 := HST.out.sum
            have h2 : s0 * 2 ≤ s0 * e0 := Nat.mul_le_mul_left _ (by omega)
            omega)
        have HXO := Lib.hid HST.out.bx.ok
        clear hqx hqy h0
        have HPX := Lib.hid (HXX.out wo HST.out.bx.ok)
        have HBB := Lib.hid (fun w5 r5 e6 e7 e8 => HB.out wo w5 ry r5 HST.out.bx HST.out.by_ HST.out.below HST.out.bz HST.out.qy e6 e7 e8)
        have HA1 := Lib.hid HST.out.bx
        clear HXX HB
        unfold RVal.val at HPX
        generalize decide (rx.q.num < 0) = sx at *
        generalize (dg rx.q.num.natAbs).length = nx at *
        generalize (dg (dnz rx.q.den)).length = mx at *
        generalize rx.N = Nx at *
        generalize rx.D = Dx at *
        generalize rx.cn = cnx at *
        generalize rx.cd = cdx at *
        go_wp2_with (fail)
        refine HPX.out.mono ?_
        rintro e w5 ⟨r5, hq5, rfl, hok5, hb5⟩
        have hD := HA1.out.b.keep hb5 HA1.out.b.lt
        obtain ⟨x0, x1, x2, x3, h0', h1', h2', h3'⟩ := hD.four
        have HFIN := Lib.hid (HBB.out w5 r5 hq5 hok5 hb5)
        try unfold RVal.val
        clear hD HBB HPX hq5
        go_wp2
        go_roundw
        case rel => exact ⟨eh, s0 + s0, k0, r5, ry, rfl, by omega, HFIN⟩
        case measure => simp [intOf]; omega
end Go.Proofs.Tg
end
