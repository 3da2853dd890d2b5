/- Parts of the proof: TS1, TS0. -/
import Derived.Deep.AppendSrc
import Derived.Test.YtpkompfkhoceoaaGreatDoorMMT14
import Derived.Test.YtpkompfkhoceoaaGreatDoorMMT17
import Derived.Test.YtpkompfkhoceoaaGreatDoorMMT22
import Derived.Test.YtpkompfkhoceoaaGreatDoorMMT30
section
/- The reference's product of a polynomial and a term, walked: any terms. -/
namespace Go.Proofs.Tg
open Go.RowKit Go.Gr Go.Bn Go.Rq Go.Mo Go.Rs Go.Mm Go.Ev
set_option maxHeartbeats 16000000
set_option maxRecDepth 100000
theorem tblk5 {w : World} {g : Nat} {t : TypeId} {a b c d e : Value} (h : Blk w g t #[a, b, c, d, e]) : w.cell? ⟨g, 0, none⟩ = some a ∧ w.cell? ⟨g, 1, none⟩ = some b ∧ w.cell? ⟨g, 2, none⟩ = some c ∧ w.cell? ⟨g, 3, none⟩ = some d ∧ w.cell? ⟨g, 4, none⟩ = some e :=
  ⟨h.cell 0, h.cell 1, h.cell 2, h.cell 3, h.cell 4⟩
/-- What the loop of Shift holds. -/
structure ShQ (w : World) (v : Nat) (L : Option Addr) (nL cL : Nat) (pc : Array Value) (G : List (Rat × List Int)) (wr : World) (k : Nat) (R : Option Addr) (c : Nat) (us : List TQ) : Prop where
  below : Below w.heap.size w wr
  b2 : Blk wr w.heap.size 65 #[.int .i64 (v : Nat), .slice L nL cL]
  b3 : Blk wr (w.heap.size + 1) 99 pc
  b4 : Blk wr (w.heap.size + 2) 65 #[.int .i64 0, .slice none 0 0]
  own : wr.ownsRow (w.heap.size + 3) 99 5 (.slice R k c) k (us.flatMap TQ.cells)
  ok : ∀ u ∈ us, u.r.Ok wr ∧ ∃ g, u.E = some ⟨g, 0, none⟩ ∧ Blk wr g 3 (iarr u.el)
  len : us.length = k
  qe : us.map TQ.qe = G.take k
theorem ShQ.keep {w wr wz : World} {v nL cL k c : Nat} {L R : Option Addr} {pc : Array Value} {G : List (Rat × List Int)} {us : List TQ} (h : ShQ w v L nL cL pc G wr k R c us) (hb : Below wr.heap.size wr wz) : ShQ w v L nL cL pc G wz k R c us :=
  ⟨below_all h.below hb, h.b2.keep hb h.b2.lt, h.b3.keep hb h.b3.lt, h.b4.keep hb h.b4.lt, own_below h.own hb (Nat.le_refl _), fun u hu => by
    obtain ⟨h1, g, h2, h3⟩ := h.ok u hu
    exact ⟨h1.keep hb, g, h2, h3.keep hb h3.lt⟩, h.len, h.qe⟩
theorem blk_ints {w : World} {g : Nat} {xs : List Int} (h : Blk w g 3 (iarr xs)) : Ints w (some ⟨g, 0, none⟩) xs := sl_new h
/-- What Shift needs of the numbers. -/
structure ShOk (v D K : Nat) (ts : List TQ) (p : TQ) : Prop where
  v6 : v ≤ 6
  few : ts.length ≤ 8
  dp : p.el.length = v ∧ ∀ e ∈ p.el, 0 ≤ e ∧ e ≤ 1000
  dt : ∀ t ∈ ts, t.el.length = v ∧ ∀ e ∈ t.el, 0 ≤ e ∧ e ≤ 1000
  qp : QS p.r.q
  qt : ∀ t ∈ ts, QS t.r.q
  bd : ∀ t ∈ ts, Bd D K (t.r.q * p.r.q)
  d0 : 0 < D
  d1 : D < 65536
  k1 : 9 * K < 1000000000
def RetShift (v : Nat) (G : List (Rat × List Int)) (w : World) (e : Ending) (w' : World) : Prop :=
  ∃ R c out, e = .returned (.agg #[.int .i64 (v : Nat), .slice R (List.length out) c]) ∧ OwnTQ w.heap.size w' R c out ∧ out.length ≤ c ∧ out.length ≤ G.length ∧ (∃ us : List TQ, us.map TQ.qe = G ∧ (∀ u ∈ us, u.el.length = v) ∧ out.map TQ.qe = col ((msrt leT us.length us).map TQ.qe)) ∧ (∀ t ∈ out, ∃ g, t.E = some ⟨g, 0, none⟩ ∧ Blk w' g 3 (iarr t.el)) ∧ Below w.heap.size w w'
theorem shift_any (v D K : Nat) (L : Option Addr) (cL : Nat) (ts : List TQ) (p : TQ) (w : World) (hL : TQs w L ts) (hp : p.Ok w) (hok : ShOk v D K ts p) :
    Calls Tryz.prog 62 #[.agg #[.int .i64 (v : Nat), .slice L ts.length cL], .agg p.cells.toArray] w (RetShift v (shL (ts.map TQ.qe) p.qe) w) := by
  have hpl := hok.dp.1
  have hv6 := hok.v6
  have hfew := hok.few
  obtain ⟨n, hn⟩ : ∃ x, ts.length = x := ⟨_, rfl⟩
  obtain ⟨G, hG⟩ : ∃ x, shL (ts.map TQ.qe) p.qe = x := ⟨_, rfl⟩
  have hGl : G.length = n := by rw [← hG]; unfold shL; rw [List.length_map, List.length_map, hn]
  have HGA : Hid (∀ k (h : k < ts.length) (h2 : k < G.length), G[k] = (ts[k].r.q * p.r.q, addL ts[k].el p.el)) := Lib.hid (fun k h h2 => by subst hG; simp [shL, TQ.qe])
  have HAL : Hid (∀ k (h : k < ts.length), (addL ts[k].el p.el).length = v) := Lib.hid (fun k h => by rw [addL_len ((hok.dt _ (List.getElem_mem h)).1.trans hpl.symm)]; exact (hok.dt _ (List.getElem_mem h)).1)
  have HSA : Hid (∀ k (h : k < ts.length) j (h1 : j < ts[k].el.length) (h2 : j < p.el.length) (h3 : j < (addL ts[k].el p.el).length), (addL ts[k].el p.el)[j] = ts[k].el[j] + p.el[j]) := Lib.hid (fun k h j h1 h2 h3 => by simp [addL])
  have HTL : Hid (∀ k (h : k < ts.length), ts[k].el.length = v ∧ ∀ e ∈ ts[k].el, 0 ≤ e ∧ e ≤ 1000) := Lib.hid (fun k h => hok.dt _ (List.getElem_mem h))
  have HPL : Hid (p.el.length = v ∧ ∀ e ∈ p.el, 0 ≤ e ∧ e ≤ 1000) := Lib.hid hok.dp
  have HPE : Hid (Ints w p.E p.el) := Lib.hid hp.e
  have HTE : Hid (∀ k (h : k < ts.length), Ints w ts[k].E ts[k].el) := Lib.hid (fun k h => (hL.ok _ (List.getElem_mem h)).e)
  have HLI : Hid (∀ k (h : k < ts.length), ∃ od, L = some od ∧ od.block < w.heap.size) := Lib.hid (fun k h => by
    obtain ⟨od, e, hlt, _⟩ := hL.sl.lies (by omega)
    exact ⟨od, e, hlt⟩)
  have HAT : Hid (∀ k (h : k < ts.length), ∃ od, L = some od ∧ w.cell? (od.add (k * 5)) = some (.bool (decide (ts[k].r.q.num < 0))) ∧ w.cell? ⟨(od.add (k * 5)).block, (od.add (k * 5)).off + 1, none⟩ = some (.slice ts[k].r.N (dg ts[k].r.q.num.natAbs).length ts[k].r.cn) ∧
      w.cell? ⟨(od.add (k * 5)).block, (od.add (k * 5)).off + 2, none⟩ = some (.bool false) ∧ w.cell? ⟨(od.add (k * 5)).block, (od.add (k * 5)).off + 3, none⟩ = some (.slice ts[k].r.D (dg (dnz ts[k].r.q.den)).length ts[k].r.cd) ∧
      w.cell? ⟨(od.add (k * 5)).block, (od.add (k * 5)).off + 4, none⟩ = some (.slice ts[k].E v ts[k].ce)) := Lib.hid (fun k h => by
    have h1 := hL.at h
    rw [(hok.dt _ (List.getElem_mem h)).1] at h1
    exact h1)
  have HRM : Hid (∀ k (h : k < ts.length) V, Below w.heap.size w V → Calls Tryz.prog 26 #[.agg #[.bool (decide (ts[k].r.q.num < 0)), .slice ts[k].r.N (dg ts[k].r.q.num.natAbs).length ts[k].r.cn, .bool false, .slice ts[k].r.D (dg (dnz ts[k].r.q.den)).length ts[k].r.cd], .agg #[.bool (decide (p.r.q.num < 0)), .slice p.r.N (dg p.r.q.num.natAbs).length p.r.cn, .bool false, .slice p.r.D (dg (dnz p.r.q.den)).length p.r.cd]] V fun e w' =>
      ∃ r : RVal, r.q = ts[k].r.q * p.r.q ∧ e = .returned (.agg #[.bool (decide (r.q.num < 0)), .slice r.N (dg r.q.num.natAbs).length r.cn, .bool false, .slice r.D (dg (dnz r.q.den)).length r.cd]) ∧ r.Ok w' ∧ Below V.heap.size V w') := Lib.hid (fun k h V hb =>
    (rmul_q ts[k].r.q p.r.q ts[k].r.val p.r.val V ((hL.ok _ (List.getElem_mem h)).r.keep hb).at (hp.r.keep hb).at (hok.qt _ (List.getElem_mem h)) hok.qp).mono fun _ _ h => h.rval)
  have HSU : Hid (∀ (us : List TQ) R c V, us.length = n → n ≤ c → TQs V R us → us.map TQ.qe = G → Calls Tryz.prog 51 #[.int .i64 (v : Nat), .slice R n c] V fun e w' => ∃ R dd out, e = .returned (.agg #[.int .i64 (v : Nat), .slice R (List.length out) dd]) ∧ OwnTQ V.heap.size w' R dd out ∧ (∀ t ∈ out, ∃ s ∈ us, t.E = s.E ∧ t.el = s.el) ∧ out.length ≤ dd ∧ out.length ≤ n ∧ out.map TQ.qe = col ((msrt leT us.length us).map TQ.qe) ∧ Below V.heap.size V w') := Lib.hid (fun us R c V hl hc hQ hq => by
    have hk1 := hok.k1
    have hmem : ∀ t ∈ us, ∃ k, ∃ h : k < ts.length, t.r.q = ts[k].r.q * p.r.q ∧ t.el = addL ts[k].el p.el := fun t ht => by
      have h1 : t.qe ∈ G := by rw [← hq]; exact List.mem_map.2 ⟨t, ht, rfl⟩
      obtain ⟨k, hk, e⟩ := List.getElem_of_mem h1
      have hk2 : k < ts.length := by omega
      rw [HGA.out k hk2 hk] at e
      exact ⟨k, hk2, (congrArg Prod.fst e).symm, (congrArg Prod.snd e).symm⟩
    have h1 := sum_any v D K (by omega) hok.d0 hok.d1 us R c V (by omega) (Nat.lt_of_le_of_lt (Nat.mul_le_mul_right K (show us.length + 1 ≤ 9 by omega)) hk1) (by omega) hQ (fun t ht => by
        obtain ⟨k, hk, e1, e2⟩ := hmem t ht
        refine ⟨by rw [e2]; exact HAL.out k hk, ?_⟩
        rw [e2]
        refine low20_iff.2 fun x hx => ?_
        obtain ⟨j, hj, rfl⟩ := List.getElem_of_mem hx
        have hj2 := hj
        rw [HAL.out k hk] at hj2
        rw [HSA.out k hk j (by rw [(HTL.out k hk).1]; exact hj2) (by rw [hpl]; exact hj2) hj]
        have h2 := (HTL.out k hk).2 (ts[k].el[j]'(by rw [(HTL.out k hk).1]; exact hj2)) (List.getElem_mem _)
        have h3 := HPL.out.2 (p.el[j]'(by rw [hpl]; exact hj2)) (List.getElem_mem _)
        omega) (fun t ht => by
        obtain ⟨k, hk, e1, e2⟩ := hmem t ht
        rw [e1]; exact hok.bd _ (List.getElem_mem hk))
    rw [hl] at h1 ⊢
    exact h1)
  have hmk := fun W => make_ints v v (Nat.le_refl _) (by omega) W
  unfold TQ.cells
  rw [hpl, hn]
  have hG' := hG
  rw [hG']
  have HNN := Lib.hid hn
  have HGL := Lib.hid hGl
  have hn8 : n ≤ 8 := by omega
  generalize p.r.N = Np at *
  generalize p.r.D = Dp at *
  generalize p.r.cn = cnp at *
  generalize p.r.cd = cdp at *
  generalize (dg p.r.q.num.natAbs).length = np at *
  generalize (dg (dnz p.r.q.den)).length = mp at *
  generalize decide (p.r.q.num < 0) = sp at *
  obtain ⟨i0, hi, iz0, iz1, iz2⟩ := info_parts Sx.rt5_info
  obtain ⟨W, hW⟩ : ∃ W, ((w.alloc (.cells #[.int .i64 (v : Nat), .slice L n cL] 65)).alloc (.cells #[.bool sp, .slice Np np cnp, .bool false, .slice Dp mp cdp, .slice p.E v p.ce] 99)).alloc (.cells #[.int .i64 0, .slice none 0 0] 65) = W := ⟨_, rfl⟩
  have B2 : Blk W w.heap.size 65 #[.int .i64 (v : Nat), .slice L n cL] := by rw [← hW]; exact ((Blk.new _ _ _).alloc _).alloc _
  have B3 : Blk W (w.heap.size + 1) 99 #[.bool sp, .slice Np np cnp, .bool false, .slice Dp mp cdp, .slice p.E v p.ce] := by
    rw [← hW]; have := (Blk.new (w.alloc (.cells #[.int .i64 (v : Nat), .slice L n cL] 65)) 99 #[.bool sp, .slice Np np cnp, .bool false, .slice Dp mp cdp, .slice p.E v p.ce]).alloc (.cells #[.int .i64 0, .slice none 0 0] 65)
    simpa using this
  have B4 : Blk W (w.heap.size + 2) 65 #[.int .i64 0, .slice none 0 0] := by
    rw [← hW]; have := Blk.new ((w.alloc (.cells #[.int .i64 (v : Nat), .slice L n cL] 65)).alloc (.cells #[.bool sp, .slice Np np cnp, .bool false, .slice Dp mp cdp, .slice p.E v p.ce] 99)) 65 #[.int .i64 0, .slice none 0 0]
    simpa using this
  have hbW : Below w.heap.size w W := by rw [← hW]; exact (((Below.refl _ _).alloc (Nat.le_refl _) _).alloc (by simp) _).alloc (by simp; omega) _
  have HWW := Lib.hid hW
  have HST0 : Hid (ShQ w v L n cL #[.bool sp, .slice Np np cnp, .bool false, .slice Dp mp cdp, .slice p.E v p.ce] G W 0 none 0 []) := Lib.hid ⟨hbW, B2, B3, B4, World.ownsRow_nil _ _ _ _, fun u h => absurd h (by simp), rfl, by simp⟩
  clear hW hG hG' hok hL hp hpl hn hGl hfew B2 B3 B4 hbW
  go_enter Tryz.func62, Tryz.ntmps62
  go_upto_region 1 with (fail)
  rw [HWW.out]
  clear HWW
  go_wp2
  go_loopw [6, 5] (fun s6 s5 wr => ∃ (k : Nat) (R : Option Addr) (c : Nat) (us : List TQ), s6 = .int .i64 (k : Nat) ∧ k ≤ n ∧ s5 = .slice R k c ∧ Hid (ShQ w v L n cL #[.bool sp, .slice Np np cnp, .bool false, .slice Dp mp cdp, .slice p.E v p.ce] G wr k R c us)) (fun s6 _ _ => n - (intOf s6).toNat)
  case atStart => exact ⟨0, none, 0, [], rfl, Nat.zero_le _, rfl, HST0⟩
  case round =>
    clear HST0
    obtain ⟨wo, rfl⟩ : ∃ wo : World, wo = wr := ⟨_, rfl⟩
    obtain ⟨k, R, c, us, rfl, hk, rfl, HST⟩ := hrel
    have hbr := HST.out.below
    have hz : w.heap.size + 3 ≤ wo.heap.size := by have := HST.out.b4.lt; omega
    obtain ⟨x0, x1, _, _⟩ := HST.out.b2.two
    by_cases hlt : k < n
    · have q0 : (0 : Int) ≤ (k : Int) := by omega
      have q1 : (k : Int) < (n : Int) := by omega
      have q3 : ((k : Int)).toNat = k := by omega
      have e1 : decide ((k : Int) < (n : Int)) = true := decide_eq_true (by omega)
      have hkt : k < ts.length := by rw [HNN.out]; exact hlt
      obtain ⟨od, hod, hobl⟩ := HLI.out k hkt
      subst hod
      have HC : Hid (w.cell? (od.add (k * 5)) = some (.bool (decide (ts[k].r.q.num < 0))) ∧ w.cell? ⟨(od.add (k * 5)).block, (od.add (k * 5)).off + 1, none⟩ = some (.slice ts[k].r.N (dg ts[k].r.q.num.natAbs).length ts[k].r.cn) ∧
          w.cell? ⟨(od.add (k * 5)).block, (od.add (k * 5)).off + 2, none⟩ = some (.bool false) ∧ w.cell? ⟨(od.add (k * 5)).block, (od.add (k * 5)).off + 3, none⟩ = some (.slice ts[k].r.D (dg (dnz ts[k].r.q.den)).length ts[k].r.cd) ∧
          w.cell? ⟨(od.add (k * 5)).block, (od.add (k * 5)).off + 4, none⟩ = some (.slice ts[k].E v ts[k].ce)) := Lib.hid (by
        obtain ⟨od2, e, h⟩ := HAT.out k hkt
        injection e with e
        subst e
        exact h)
      have HRM1 := Lib.hid (HRM.out k hkt)
      have HE1 := Lib.hid (HTE.out k hkt)
      have HTL1 := Lib.hid (HTL.out k hkt)
      have HSA1 := Lib.hid (HSA.out k hkt)
      have HAL1 := Lib.hid (HAL.out k hkt)
      have HGA1 := Lib.hid (HGA.out k hkt (by rw [HGL.out]; exact hlt))
      obtain ⟨s, hs⟩ : ∃ x, addL ts[k].el p.el = x := ⟨_, rfl⟩
      rw [hs] at HSA1 HAL1 HGA1
      clear hs
      generalize ts[k] = t at *
      obtain ⟨⟨tq, tN, tcn, tD, tcd⟩, tE, tce, tel⟩ := t
      simp only at HC HRM1 HE1 HTL1 HSA1 HGA1
      generalize (dg tq.num.natAbs).length = tn at *
      generalize (dg (dnz tq.den)).length = tm at *
      generalize decide (tq.num < 0) = ts1 at *
      clear hkt
      go_wp2
      clear hmk
      go_loopw [8] (fun s8 wr => ∃ j : Nat, j ≤ v ∧ s8 = .int .i64 (j : Nat) ∧ Blk wr wo.heap.size 3 (iarr (s.take j ++ List.replicate (v - j) 0)) ∧ Below wo.heap.size wo wr) (fun s8 _ => v - (intOf s8).toNat)
      case atStart =>
        refine ⟨0, Nat.zero_le _, rfl, ?_, (Below.refl _ _).alloc (Nat.le_refl _) _⟩
        have e : iarr (s.take 0 ++ List.replicate (v - 0) 0) = madeCells #[.int .i64 0] v := (iarr_made v).symm
        rw [e]
        exact Blk.new wo 3 _
      case round =>
        clear x0 x1
        obtain ⟨wi, rfl⟩ : ∃ wi : World, wi = wr := ⟨_, rfl⟩
        obtain ⟨j, hj, rfl, G0, hbi⟩ := hrel
        have HSI := Lib.hid (HST.out.keep hbi)
        have hbwi := HSI.out.below
        obtain ⟨x0, x1, _, _⟩ := HSI.out.b2.two
        by_cases hjl : j < v
        · have e2 : decide ((j : Int) < (v : Int)) = true := decide_eq_true (by omega)
          have hal := HTL1.out.1
          have hbl := HPL.out.1
          obtain ⟨k0, k1, k2, k3, k4⟩ := HC.out
          have k4 := keep_cell hbwi k4
          clear k0 k1 k2 k3
          obtain ⟨y0, y1, y2, y3, y4⟩ := tblk5 HSI.out.b3
          clear y0 y1 y2 y3
          obtain ⟨ad, hAD, hca⟩ := Ints.at (HE1.out.keep hbwi) (show j < tel.length by omega)
          subst hAD
          obtain ⟨bd, hBD, hcb⟩ := Ints.at (HPE.out.keep hbwi) (show j < p.el.length by omega)
          rw [hBD] at y4
          have hx := HTL1.out.2 (tel[j]'(by omega)) (List.getElem_mem _)
          have hy := HPL.out.2 (p.el[j]'(by omega)) (List.getElem_mem _)
          have hl2 : (s.take j ++ List.replicate (v - j) 0).length = v := by
            have := HAL1.out
            rw [List.length_append, List.length_take, List.length_replicate]; omega
          have HFS : Hid ((s.take j ++ List.replicate (v - j) 0).set j (tel[j]'(by omega) + p.el[j]'(by omega)) = s.take (j + 1) ++ List.replicate (v - (j + 1)) 0) := Lib.hid (fill_set _ j _ _ HAL1.out hjl (HSA1.out j (by omega) (by omega) (by rw [HAL1.out]; exact hjl)))
          have g0 := G0.cell j
          have f0 := G0.frozen j
          rw [iarr_at _ (by rw [hl2]; exact hjl)] at g0
          generalize (s.take j ++ List.replicate (v - j) 0)[j]'(by rw [hl2]; exact hjl) = old at g0
          have HG0 := Lib.hid G0
          generalize p.el[j]'(by omega) = y at *
          generalize tel[j]'(by omega) = x at *
          have w1 : IntKind.i64.wrap (x + y) = x + y := IntWalk.i64_in _ (by omega)
          have p0 : (0 : Int) ≤ (j : Int) := by omega
          have p1 : (j : Int) < (v : Int) := by omega
          have p3 : ((j : Int)).toNat = j := by omega
          clear G0 hl2 hx hy hal hbl hBD
          go_upto_region 9 with (fail)
          go_region
          go_wp2
          go_roundw
          case rel =>
            refine ⟨j + 1, by omega, by go_num, ?_, (below_far hbi (Nat.le_refl _) _ _).drew⟩
            have := HG0.out.set j (.int .i64 (x + y))
            rw [iarr_set, HFS.out] at this
            exact this.drew
          case measure => simp [intOf]; omega
        · obtain rfl : j = v := by omega
          rw [Nat.sub_self, List.replicate_zero, List.append_nil, List.take_of_length_le (by rw [HAL1.out]; omega)] at G0
          have dk : decide ((j : Int) < (j : Int)) = false := by simp
          have q1' := q1
          go_upto_region 10 with (fail)
          obtain ⟨k0, k1, k2, k3, k4⟩ := HC.out
          obtain ⟨y0, y1, y2, y3, y4⟩ := tblk5 HSI.out.b3
          have k0 := keep_cell hbwi k0
          have k1 := keep_cell hbwi k1
          have k2 := keep_cell hbwi k2
          have k3 := keep_cell hbwi k3
          have HK : Hid (wi.cell? ⟨w.heap.size, 1, none⟩ = some (.slice (some od) n cL) ∧ wi.cell? (od.add (k * 5)) = some (.bool ts1) ∧ wi.cell? ⟨(od.add (k * 5)).block, (od.add (k * 5)).off + 1, none⟩ = some (.slice tN tn tcn) ∧ wi.cell? ⟨(od.add (k * 5)).block, (od.add (k * 5)).off + 2, none⟩ = some (.bool false) ∧ wi.cell? ⟨(od.add (k * 5)).block, (od.add (k * 5)).off + 3, none⟩ = some (.slice tD tm tcd) ∧ wi.cell? ⟨w.heap.size + 1, 0, none⟩ = some (.bool sp) ∧ wi.cell? ⟨w.heap.size + 1, 1, none⟩ = some (.slice Np np cnp) ∧ wi.cell? ⟨w.heap.size + 1, 2, none⟩ = some (.bool false) ∧ wi.cell? ⟨w.heap.size + 1, 3, none⟩ = some (.slice Dp mp cdp)) := Lib.hid ⟨x1, k0, k1, k2, k3, y0, y1, y2, y3⟩
          clear x0 x1 k0 k1 k2 k3 k4 y0 y1 y2 y3 y4
          have hoa : some (od.add (k * 5)).block ≠ (Value.slice R k c).ownBlock := fun e => by have := (HSI.out.own.lt _ e.symm).1; rw [add_block] at this; omega
          have hob2 : some w.heap.size ≠ (Value.slice R k c).ownBlock := fun e => by have := (HSI.out.own.lt _ e.symm).1; omega
          have hob3 : some (w.heap.size + 1) ≠ (Value.slice R k c).ownBlock := fun e => by have := (HSI.out.own.lt _ e.symm).1; omega
          have hzi : w.heap.size + 3 ≤ wi.heap.size := by have := HSI.out.b4.lt; omega
          have hzw := hbi.size
          have HG0 := Lib.hid G0
          have HKP : Hid (∀ V, Below wi.heap.size wi V → V.cell? ⟨w.heap.size, 1, none⟩ = some (.slice (some od) n cL) ∧ V.cell? (od.add (k * 5)) = some (.bool ts1) ∧ V.cell? ⟨(od.add (k * 5)).block, (od.add (k * 5)).off + 1, none⟩ = some (.slice tN tn tcn) ∧ V.cell? ⟨(od.add (k * 5)).block, (od.add (k * 5)).off + 2, none⟩ = some (.bool false) ∧ V.cell? ⟨(od.add (k * 5)).block, (od.add (k * 5)).off + 3, none⟩ = some (.slice tD tm tcd) ∧ V.cell? ⟨w.heap.size + 1, 0, none⟩ = some (.bool sp) ∧ V.cell? ⟨w.heap.size + 1, 1, none⟩ = some (.slice Np np cnp) ∧ V.cell? ⟨w.heap.size + 1, 2, none⟩ = some (.bool false) ∧ V.cell? ⟨w.heap.size + 1, 3, none⟩ = some (.slice Dp mp cdp)) := Lib.hid (fun V h => by
            obtain ⟨a1, a2, a3, a4, a5, a6, a7, a8, a9⟩ := HK.out
            exact ⟨keep_cell h a1, keep_cell h a2, keep_cell h a3, keep_cell h a4, keep_cell h a5, keep_cell h a6, keep_cell h a7, keep_cell h a8, keep_cell h a9⟩)
          have HKG : Hid (∀ V V', Below wi.heap.size wi V → V.grownBy V' (Value.slice R k c).ownBlock → V'.cell? ⟨w.heap.size, 1, none⟩ = some (.slice (some od) n cL) ∧ V'.cell? (od.add (k * 5)) = some (.bool ts1) ∧ V'.cell? ⟨(od.add (k * 5)).block, (od.add (k * 5)).off + 1, none⟩ = some (.slice tN tn tcn) ∧ V'.cell? ⟨(od.add (k * 5)).block, (od.add (k * 5)).off + 2, none⟩ = some (.bool false) ∧ V'.cell? ⟨(od.add (k * 5)).block, (od.add (k * 5)).off + 3, none⟩ = some (.slice tD tm tcd) ∧ V'.cell? ⟨w.heap.size + 1, 0, none⟩ = some (.bool sp) ∧ V'.cell? ⟨w.heap.size + 1, 1, none⟩ = some (.slice Np np cnp) ∧ V'.cell? ⟨w.heap.size + 1, 2, none⟩ = some (.bool false) ∧ V'.cell? ⟨w.heap.size + 1, 3, none⟩ = some (.slice Dp mp cdp)) := Lib.hid (fun V V' h hg => by
            obtain ⟨a1, a2, a3, a4, a5, a6, a7, a8, a9⟩ := HKP.out V h
            exact ⟨hg.cell a1 hob2, hg.cell a2 hoa, hg.cell a3 hoa, hg.cell a4 hoa, hg.cell a5 hoa, hg.cell a6 hob3, hg.cell a7 hob3, hg.cell a8 hob3, hg.cell a9 hob3⟩)
          have hbe : Below wi.heap.size wi wi.drew := (Below.refl _ _).drew
          have HOW := Lib.hid HSI.out.own
          clear hj hjl dk G0
          go_region_held3 (fun w' => w'.cell? ⟨w.heap.size, 1, none⟩ = some (.slice (some od) n cL) ∧ w'.cell? (od.add (k * 5)) = some (.bool ts1) ∧ w'.cell? ⟨(od.add (k * 5)).block, (od.add (k * 5)).off + 1, none⟩ = some (.slice tN tn tcn) ∧ w'.cell? ⟨(od.add (k * 5)).block, (od.add (k * 5)).off + 2, none⟩ = some (.bool false) ∧ w'.cell? ⟨(od.add (k * 5)).block, (od.add (k * 5)).off + 3, none⟩ = some (.slice tD tm tcd) ∧ w'.cell? ⟨w.heap.size + 1, 0, none⟩ = some (.bool sp) ∧ w'.cell? ⟨w.heap.size + 1, 1, none⟩ = some (.slice Np np cnp) ∧ w'.cell? ⟨w.heap.size + 1, 2, none⟩ = some (.bool false) ∧ w'.cell? ⟨w.heap.size + 1, 3, none⟩ = some (.slice Dp mp cdp))
            (first | exact r0 | exact HKP.out _ (by assumption) | exact HKP.out _ (hbe.alloc hbe.size _))
            (first
              | (go_at_call 26; with_reducible refine Calls.mono (HRM1.out _ (below_all hbwi hbe)) ?_; rintro e w2 ⟨r, hrq, rfl, hrok, hb2⟩
                 have HRQ := Lib.hid hrq
                 have HROK := Lib.hid hrok
                 clear hrq hrok
                 have hbe := below_all hbe hb2
                 have hown2 := own_below HOW.out hbe (Nat.le_refl _)
                 have hsz2 := hbe.size
                 have HNW := Lib.hid (cells_new w2 99 [.bool (decide (r.q.num < 0)), .slice r.N (dg r.q.num.natAbs).length r.cn, .bool false, .slice r.D (dg (dnz r.q.den)).length r.cd, .slice (some ⟨wo.heap.size, 0, none⟩) j j]))
              | (refine step_append_lies _ (by rfl) _ _ 63 (by rfl) (w.heap.size + 3) 99 i0 _ 5 88 Tryz.underlying63 hi iz0 iz1 iz2 rfl (by decide) (.slice R k c) k (us.flatMap TQ.cells) (by simp [Act.eval]) (hown2.alloc _) ⟨w2.heap.size, 0, none⟩ 1 1 [.bool (decide (r.q.num < 0)), .slice r.N (dg r.q.num.natAbs).length r.cn, .bool false, .slice r.D (dg (dnz r.q.den)).length r.cd, .slice (some ⟨wo.heap.size, 0, none⟩) j j] (by simp [Act.eval]) rfl HNW.out (by simp [Value.oneCell']) (by omega) (by simp only [maxLen]; omega) (by omega) (by simp; omega) (w2.heap.size + 1) (by simp) ?_
                 intro g2 cap w3 hown3 hg3 _ _
                 have r0 := HKG.out _ _ (hbe.alloc hbe.size _) hg3))
          all_goals
            go_wp2_with (fail)
            go_roundw
            case rel =>
              have hsj := HAL1.out
              have hbX := hbe.alloc hbe.size (.cells #[.bool (decide (r.q.num < 0)), .slice r.N (dg r.q.num.natAbs).length r.cn, .bool false, .slice r.D (dg (dnz r.q.den)).length r.cd, .slice (some ⟨wo.heap.size, 0, none⟩) j j] 99)
              have S3 := HSI.out.keep hbX
              have hownX := hown2.alloc (.cells #[.bool (decide (r.q.num < 0)), .slice r.N (dg r.q.num.natAbs).length r.cn, .bool false, .slice r.D (dg (dnz r.q.den)).length r.cd, .slice (some ⟨wo.heap.size, 0, none⟩) j j] 99)
              have G3 := HG0.out.keep hbX HG0.out.lt
              have hbR : Below w2.heap.size w2 (w2.alloc (.cells #[.bool (decide (r.q.num < 0)), .slice r.N (dg r.q.num.natAbs).length r.cn, .bool false, .slice r.D (dg (dnz r.q.den)).length r.cd, .slice (some ⟨wo.heap.size, 0, none⟩) j j] 99)) := (Below.refl _ _).alloc (Nat.le_refl _) _
              have hR3 := (HROK.out.keep hbR).grown hownX hg3 (by decide)
              refine ⟨k + 1, some ⟨g2, 0, none⟩, cap, us ++ [⟨r, some ⟨wo.heap.size, 0, none⟩, j, s⟩], by go_num, by omega, by simp, Lib.hid ⟨?_, ?_, ?_, ?_, ?_, ?_, ?_, ?_⟩⟩
              · exact S3.below.grown hg3 (by have := S3.below.size; omega) (fun q hq => by have := (hownX.lt q hq).1; omega)
              · exact S3.b2.grown hg3 hob2
              · exact S3.b3.grown hg3 hob3
              · exact S3.b4.grown hg3 (fun e => by have := (hownX.lt _ e.symm).1; omega)
              · have e : (us ++ [(⟨r, some ⟨wo.heap.size, 0, none⟩, j, s⟩ : TQ)]).flatMap TQ.cells = us.flatMap TQ.cells ++ [.bool (decide (r.q.num < 0)), .slice r.N (dg r.q.num.natAbs).length r.cn, .bool false, .slice r.D (dg (dnz r.q.den)).length r.cd, .slice (some ⟨wo.heap.size, 0, none⟩) j j] := by
                  rw [List.flatMap_append]
                  simp [TQ.cells, hsj]
                rw [e]
                exact hown3
              · intro u hu
                rcases List.mem_append.1 hu with hu | hu
                · obtain ⟨h1, g, h2, h3⟩ := S3.ok u hu
                  exact ⟨h1.grown hownX hg3 (by decide), g, h2, h3.grown hg3 (own_blk_ne hownX h3 (by decide))⟩
                · rw [List.mem_singleton.1 hu]
                  exact ⟨hR3, wo.heap.size, rfl, G3.grown hg3 (own_blk_ne hownX G3 (by decide))⟩
              · rw [List.length_append, HST.out.len]; rfl
              · have hkG : k < G.length := by rw [HGL.out]; exact hlt
                rw [List.map_append, HST.out.qe, List.take_succ_eq_append_getElem hkG, HGA1.out]
                show _ ++ [(r.q, s)] = _
                rw [HRQ.out]
            case measure => simp [intOf]; omega
    · obtain rfl : k = n := by omega
      have e1 : decide ((k : Int) < (k : Int)) = false := decide_eq_false (by omega)
      have hQ : TQs wo R us := ⟨by rw [HST.out.len]; exact Sl.own HST.out.own, fun u hu => by
        obtain ⟨h1, g, h2, h3⟩ := HST.out.ok u hu
        exact ⟨h1, by rw [h2]; exact blk_ints h3⟩⟩
      have hqe : us.map TQ.qe = G := by rw [HST.out.qe, List.take_of_length_le (by rw [HGL.out]; exact Nat.le_refl _)]
      have hkc : k ≤ c := by
        obtain ⟨_, _, hv9, hcap, _⟩ := Sl.of_own HST.out.own
        injection hv9 with _ _ hv9
        omega
      have HS2 := Lib.hid (HSU.out us R c wo HST.out.len hkc hQ hqe)
      have HQE := Lib.hid hqe
      have hz4 := HST.out.b4.lt
      clear hmk hqe hQ HSU
      go_wp2_with (go_at_call 51; refine HS2.out.mono ?_; rintro e w6 ⟨R6, c6, out, rfl, hO6, hm6, hl6, hn6, hq6, hb6⟩
                   have HO6 := Lib.hid hO6
                   have HM6 := Lib.hid hm6
                   have HQ6 := Lib.hid hq6
                   have HL6 := Lib.hid (And.intro hl6 hn6)
                   clear hO6 hm6 hq6 hl6 hn6
                   obtain ⟨no, hno⟩ : ∃ x, out.length = x := ⟨_, rfl⟩
                   rw [hno]
                   have HNO := Lib.hid hno
                   clear hno
                   have K4 := HST.out.b4.keep hb6 HST.out.b4.lt
                   obtain ⟨d0, d1, d2, d3⟩ := K4.two)
      have hS6 := HO6.out.own
      have hne4 := own_blk_ne hS6 K4 (by decide)
      have hbL := below_all hbr hb6
      have K5 := K4.set 0 (.int .i64 (v : Nat))
      have M4 := K5.set 1 (.slice R6 no c6)
      obtain ⟨e0, e1, _, _⟩ := M4.two
      have HBE : Hid (∀ t ∈ out, ∃ g, t.E = some ⟨g, 0, none⟩ ∧ Blk ((w6.setCell ⟨w.heap.size + 2, 0, none⟩ (.int .i64 (v : Nat))).setCell ⟨w.heap.size + 2, 1, none⟩ (.slice R6 no c6)) g 3 (iarr t.el)) := Lib.hid (fun t ht => by
        obtain ⟨u, hu, e1, e2⟩ := HM6.out t ht
        obtain ⟨_, g, h2, h3⟩ := HST.out.ok u hu
        have h3' := h3.keep hb6 h3.lt
        have hne : g ≠ w.heap.size + 2 := fun e => by
          rw [e] at h3'
          unfold Blk at h3' K4
          rw [K4] at h3'
          injection h3' with h1
          injection h1 with _ h2
          exact absurd h2 (by decide)
        exact ⟨g, by rw [e1, h2], by rw [e2]; exact (h3'.far hne _).far hne _⟩)
      refine bodyPost_ret (v := .agg #[.int .i64 (v : Nat), .slice R6 no c6]) (by simp [results, Tryz.results62, go_sem, e0, e1]) rfl ⟨R6, c6, out, by rw [HNO.out], ⟨?_, fun t ht => ?_⟩, HL6.out.1, by rw [HGL.out]; exact HL6.out.2, ⟨us, HQE.out, fun u hu => ?_, HQ6.out⟩, HBE.out, below_far (below_far hbL (by omega) _ _) (by omega) _ _⟩
      · exact own_far (p := ⟨w.heap.size + 2, 1, none⟩) (own_far (p := ⟨w.heap.size + 2, 0, none⟩) (own_base hS6 (by omega)) hne4 _) hne4 _
      · refine ⟨((HO6.out.ok t ht).r.far K4 (by decide) 0 _).far K5 (by decide) 1 _, ?_⟩
        obtain ⟨g, h1, h2⟩ := HBE.out t ht
        rw [h1]
        exact blk_ints h2
      · have h1 : u.qe ∈ G := by rw [← HQE.out]; exact List.mem_map.2 ⟨u, hu, rfl⟩
        obtain ⟨i, hi, e⟩ := List.getElem_of_mem h1
        rw [HGA.out i (by rw [HNN.out, ← HGL.out]; exact hi) hi] at e
        rw [show u.el = addL _ _ from (congrArg Prod.snd e).symm]
        exact HAL.out i (by rw [HNN.out, ← HGL.out]; exact hi)
end Go.Proofs.Tg
end
section
/- append of terms onto a row of the call's own, from any slice of terms. -/
namespace Go.Proofs.Tg
open Go.RowKit Go.Gr Go.Bn Go.Rq
set_option maxHeartbeats 4000000
set_option maxRecDepth 100000
theorem run_append_none {P : Program} {w : World} (t tx ty e : TypeId) (i : TypeInfo) (ht : P.underlying t = some (.slice e)) (hi : P.info? e = some i) (x : Value) (hs : Src P i.size tx x 0 [] w) :
    (Builtin.append_ #[t, tx] ty #[.slice none 0 0, x]).run P w = .ok (.slice none 0 0) w := by
  rcases hs.kind with ⟨e', hk⟩ | hk <;> simp [Builtin.append_, run_underlying ht, run_underlying hk, sizeOf, typeInfo, hi, hs.len, hs.cells]
theorem tq_one (ts : List TQ) : ∀ u ∈ ts.flatMap TQ.cells, u.oneCell' = true := by
  intro u hu
  obtain ⟨t, _, h⟩ := List.mem_flatMap.1 hu
  unfold TQ.cells at h
  simp only [List.mem_cons, List.not_mem_nil, or_false] at h
  rcases h with rfl | rfl | rfl | rfl | rfl <;> rfl
theorem step_app_tq {ops : Array Oper} {o : Oper} {a : Act} {K : Act → World → Prop} {Q : Exit → Act → World → Prop} {E0 : Prop} {w : World} (hgd : o.guard = none) (s x : Operand)
    (ho : o.op = .call { callee := .builtin .append, args := #[s, x], argTypes := #[63, 63] })
    (base : Nat) (A : Option Addr) (cA n : Nat) (xs : List Value) (hs : a.eval s = .slice A n cA) (hown : w.ownsRow base 99 5 (.slice A n cA) n xs)
    (E : Option Addr) (m ce : Nat) (ts : List TQ) (hm : ts.length = m) (hx : a.eval x = .slice E m ce) (hQ : Sl w E m 5 (ts.flatMap TQ.cells)) (hn : n + m ≤ 1000) (hbase : base ≤ w.heap.size)
    (h : ∀ A' c' w', w'.ownsRow base 99 5 (.slice A' (n + m) c') (n + m) (xs ++ ts.flatMap TQ.cells) → w.grownBy w' (Value.slice A n cA).ownBlock → K (a.put o.dst (.slice A' (n + m) c')) w') :
    if Region.wanted o (yielded ops a.tmps) = true then Oper.wp Tryz.prog o a w K Q else E0 := by
  have hw : Region.wanted o (yielded ops a.tmps) = true := by simp [Region.wanted, hgd]
  rw [if_pos hw]
  obtain ⟨ii, hii, iz0, iz1, iz2⟩ := info_parts Sx.rt5_info
  by_cases h0 : m = 0
  · subst h0
    have hts : ts = [] := List.length_eq_zero_iff.1 hm
    subst hts
    have hS : Src Tryz.prog ii.size 63 (.slice E 0 ce) 0 [] w := by
      cases E with
      | none => exact Src.ofNil _ Tryz.underlying63 ce
      | some ad => exact Src.ofSlice _ Tryz.underlying63 ad 0 ce [] (by simp) (by simp) (by simp)
    have hr : (Builtin.append_ #[63, 63] o.type #[.slice A n cA, .slice E 0 ce]).run Tryz.prog w = .ok (.slice A n cA) w := by
      rcases hown.2 with ⟨e, e2⟩ | ⟨g, cap, cur, e, _, hg, hnc, _⟩
      · injection e with e1 e2 e3
        subst e1 e2 e3
        exact run_append_none _ _ _ _ ii Tryz.underlying63 hii _ hS
      · injection e with e1 e2 e3
        subst e1 e3
        have := run_append_room_src (P := Tryz.prog) w 63 63 o.type 99 ii Tryz.underlying63 hii g 0 n cA (.slice E 0 ce) 0 [] hS (by simpa using hnc) (by simp) (by simp)
        simpa [World.setCells] using this
    unfold Oper.wp execOp
    simp only [ho, resolve, invoke, builtin, Sem.run_bind, Sem.run_pure, Result.andThen_ok, List.map_toArray, List.map_cons, List.map_nil, hs, hx, hr]
    have h2 : K (a.put o.dst (.slice A n cA)) w := by simpa using h A cA w (by simpa using hown) (World.grownBy.refl _ _)
    exact h2
  · have hp : 0 < m := by omega
    obtain ⟨ad, rfl, _, hc⟩ := hQ.lies hp
    refine wp_append_own w s x 63 ho base 99 ii _ 5 88 Tryz.underlying63 hii iz0 iz1 iz2 rfl (by decide) (.slice A n cA) n xs hs hown ad m ce (ts.flatMap TQ.cells) hx (by have := hQ.len; omega) hc (tq_one ts) (by simp only [maxLen]; omega) (by omega) hbase ?_
    intro v' w' hown' hgrow _
    obtain ⟨A', c', rfl, _, _⟩ := Sl.of_own hown'
    exact h A' c' w' hown' hgrow
end Go.Proofs.Tg
end
