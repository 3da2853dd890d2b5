/- Parts of the proof: TS2, WAP, XA0, XA2. -/
import Derived.Deep.AppendSrc
import Derived.Carry
import Derived.Test.YtpkompfkhoceoaaGreatDoorMMT2
import Derived.Test.YtpkompfkhoceoaaGreatDoorMMT3
import Derived.Test.YtpkompfkhoceoaaGreatDoorMMT7
import Derived.Test.YtpkompfkhoceoaaGreatDoorMMT12
import Derived.Test.YtpkompfkhoceoaaGreatDoorMMT14
import Derived.Test.YtpkompfkhoceoaaGreatDoorMMT17
import Derived.Test.YtpkompfkhoceoaaGreatDoorMMT25
import Derived.Test.YtpkompfkhoceoaaGreatDoorMMT32
section
/- The reference's product of two polynomials, walked. Printed by mk_ts2.py. -/
namespace Go.Proofs.Tg
open Go.RowKit Go.Gr Go.Bn Go.Rq Go.Mo Go.Rs Go.Mm Go.Ev
set_option maxHeartbeats 16000000
set_option maxRecDepth 100000
theorem prL_take (G P : List (Rat × List Int)) {k : Nat} (hk : k < P.length) : prL G (P.take (k + 1)) = prL G (P.take k) ++ shL G P[k] := by
  unfold prL
  rw [List.take_succ_eq_append_getElem hk, List.flatMap_append]
  simp
theorem Nm.prefix {D : Nat} {l m : List (Rat × List Int)} {K : Nat} (h : Rs.Nm D (l ++ m) K) : Rs.Nm D l K := by
  obtain ⟨K1, _, h1, h2, _⟩ := Rs.Nm.split h
  exact h2.mono (by omega)
theorem field_P (n : Int) (R : Option Addr) (m c : Nat) (w : World) : (Instr.field 65 (.agg #[.int .i64 n, .slice R m c]) 1).run Tryz.prog w = .ok (.slice R m c) w := by
  simp [Instr.field, run_underlying Tryz.underlying65, go_sem, asAgg]
/-- What the loop of Times holds. -/
structure TmSt (w : World) (v : Nat) (L : Option Addr) (nG cL : Nat) (P : Option Addr) (nP cP : Nat) (G Q : List (Rat × List Int)) (wr : World) (k : Nat) (R : Option Addr) (c N : Nat) (us : List TQ) : Prop where
  below : Below w.heap.size w wr
  b2 : Blk wr w.heap.size 65 #[.int .i64 (v : Nat), .slice L nG cL]
  b3 : Blk wr (w.heap.size + 1) 65 #[.int .i64 (v : Nat), .slice P nP cP]
  b4 : Blk wr (w.heap.size + 2) 65 #[.int .i64 0, .slice none 0 0]
  own : wr.ownsRow (w.heap.size + 3) 99 5 (.slice R N c) N (us.flatMap TQ.cells)
  ok : ∀ u ∈ us, u.r.Ok wr ∧ ∃ g, u.E = some ⟨g, 0, none⟩ ∧ Blk wr g 3 (iarr u.el)
  len : us.length = N
  few : N ≤ 3 * k
  eqv : Eqv v (us.map TQ.qe) (prL G (Q.take k))
theorem TmSt.keep {w wr wz : World} {v nG cL nP cP k c N : Nat} {L P R : Option Addr} {G Q : List (Rat × List Int)} {us : List TQ} (h : TmSt w v L nG cL P nP cP G Q wr k R c N us) (hb : Below wr.heap.size wr wz) : TmSt w v L nG cL P nP cP G Q wz k R c N us :=
  ⟨below_all h.below hb, h.b2.keep hb h.b2.lt, h.b3.keep hb h.b3.lt, h.b4.keep hb h.b4.lt, own_below h.own hb (Nat.le_refl _), fun u hu => by
    obtain ⟨h1, g, h2, h3⟩ := h.ok u hu
    exact ⟨h1.keep hb, g, h2, h3.keep hb h3.lt⟩, h.len, h.few, h.eqv⟩
/-- What Times needs of its polynomials. -/
structure TmOk (v DG DP KG KP : Nat) (gs ps : List TQ) : Prop where
  v6 : v ≤ 6
  ng : gs.length ≤ 3
  np : ps.length ≤ 3
  dg : ∀ t ∈ gs, t.el.length = v ∧ ∀ e ∈ t.el, 0 ≤ e ∧ e ≤ 1000
  dp : ∀ t ∈ ps, t.el.length = v ∧ ∀ e ∈ t.el, 0 ≤ e ∧ e ≤ 1000
  ag : Rs.Nm DG (gs.map TQ.qe) KG
  ap : Rs.Nm DP (ps.map TQ.qe) KP
  d1 : 0 < DG ∧ DG ≤ 12
  d2 : 0 < DP ∧ DP ≤ 12
  k1 : KG ≤ 171
  k2 : KP ≤ 171
theorem TmOk.kk {v DG DP KG KP : Nat} {gs ps : List TQ} (h : TmOk v DG DP KG KP gs ps) : KG * KP ≤ 29241 ∧ 0 < DG * DP ∧ DG * DP ≤ 144 :=
  ⟨Nat.mul_le_mul h.k1 h.k2, Nat.mul_pos h.d1.1 h.d2.1, Nat.mul_le_mul h.d1.2 h.d2.2⟩
theorem qe_mem {ts : List TQ} {t : TQ} (ht : t ∈ ts) : t.qe ∈ ts.map TQ.qe := List.mem_map.2 ⟨t, ht, rfl⟩
theorem TmOk.sh {v DG DP KG KP : Nat} {gs ps : List TQ} (h : TmOk v DG DP KG KP gs ps) {p : TQ} (hp : p ∈ ps) : ShOk v (DG * DP) (KG * KP) gs p := by
  have hbp : Bd DP KP p.r.q := h.ap.mem _ (qe_mem hp)
  have hbg : ∀ t ∈ gs, Bd DG KG t.r.q := fun t ht => h.ag.mem _ (qe_mem ht)
  have hkk := h.kk
  have k1 := h.k1
  have k2 := h.k2
  have d1 := h.d1
  have d2 := h.d2
  have ng := h.ng
  exact ⟨h.v6, by omega, h.dp p hp, h.dg, bd_qs hbp d2.1 (by omega) (by omega), fun t ht => bd_qs (hbg t ht) d1.1 (by omega) (by omega), fun t ht => (hbg t ht).mul hbp, hkk.2.1, by omega, by omega⟩
def RetTimes (v : Nat) (G Q : List (Rat × List Int)) (w : World) (e : Ending) (w' : World) : Prop :=
  ∃ R c out, e = .returned (.agg #[.int .i64 (v : Nat), .slice R (List.length out) c]) ∧ TQs w' R out ∧ out.length ≤ 9 ∧ Eqv v (out.map TQ.qe) (prL G Q) ∧ (∃ us : List TQ, (∀ u ∈ us, ∃ x ∈ prL G Q, u.el = x.2) ∧ out.map TQ.qe = col ((msrt leT us.length us).map TQ.qe)) ∧ Below w.heap.size w w'
theorem dim_pr {v DG DP KG KP : Nat} {gs ps : List TQ} (h : TmOk v DG DP KG KP gs ps) {us : List (Rat × List Int)} {k : Nat} (he : Eqv v us (prL (gs.map TQ.qe) ((ps.map TQ.qe).take k))) : ∀ t ∈ us, t.2.length = v ∧ low20 t.2 = true ∧ Bd (DG * DP) (KG * KP) t.1 ∧ ∃ x ∈ prL (gs.map TQ.qe) (ps.map TQ.qe), t.2 = x.2 := by
  intro t ht
  have hsplit : ps.map TQ.qe = (ps.map TQ.qe).take k ++ (ps.map TQ.qe).drop k := (List.take_append_drop _ _).symm
  have hpre : prL (gs.map TQ.qe) (ps.map TQ.qe) = prL (gs.map TQ.qe) ((ps.map TQ.qe).take k) ++ prL (gs.map TQ.qe) ((ps.map TQ.qe).drop k) := by
    unfold prL
    rw [← List.flatMap_append, List.take_append_drop]
  have hnm := prL_nm h.ag h.ap
  rw [hpre] at hnm
  have hbd := (he.nm _ _ h.kk.2.1 (Nm.prefix hnm)).mem t ht
  obtain ⟨s, hs, e⟩ := he.mem t ht
  have hs2 : s ∈ prL (gs.map TQ.qe) (ps.map TQ.qe) := by rw [hpre]; exact List.mem_append_left _ hs
  obtain ⟨y, hy, hs3⟩ := List.mem_flatMap.1 hs
  obtain ⟨x, hx, rfl⟩ := List.mem_map.1 hs3
  obtain ⟨a, ha, rfl⟩ := List.mem_map.1 hx
  obtain ⟨b, hb, rfl⟩ := List.mem_map.1 (List.mem_of_mem_take hy)
  have h1 := h.dg a ha
  have h2 := h.dp b hb
  have hl : a.el.length = b.el.length := h1.1.trans h2.1.symm
  rw [← e]
  refine ⟨(addL_len hl).trans h1.1, low20_iff.2 fun z hz => ?_, hbd, _, hs2, rfl⟩
  have hz' : z ∈ addL a.el b.el := hz
  unfold addL at hz'
  obtain ⟨i, hi, rfl⟩ := List.getElem_of_mem hz'
  rw [List.getElem_zipWith]
  have hi2 : i < a.el.length ∧ i < b.el.length := by simp at hi; omega
  have h3 := h1.2 (a.el[i]'hi2.1) (List.getElem_mem _)
  have h4 := h2.2 (b.el[i]'hi2.2) (List.getElem_mem _)
  omega
theorem times_any (v DG DP KG KP : Nat) (L P : Option Addr) (cL cP : Nat) (gs ps : List TQ) (w : World) (hL : TQs w L gs) (hP : TQs w P ps) (hok : TmOk v DG DP KG KP gs ps) :
    Calls Tryz.prog 34 #[.agg #[.int .i64 (v : Nat), .slice L gs.length cL], .agg #[.int .i64 (v : Nat), .slice P ps.length cP]] w (RetTimes v (gs.map TQ.qe) (ps.map TQ.qe) w) := by
  obtain ⟨nG, hnG⟩ : ∃ x, gs.length = x := ⟨_, rfl⟩
  obtain ⟨nP, hnP⟩ : ∃ x, ps.length = x := ⟨_, rfl⟩
  have hg3 : nG ≤ 3 := by rw [← hnG]; exact hok.ng
  have hp3 : nP ≤ 3 := by rw [← hnP]; exact hok.np
  have hv6 := hok.v6
  have HNG := Lib.hid hnG
  have HNP := Lib.hid hnP
  have HPI : Hid (∀ k (h : k < ps.length), ∃ od, P = some od ∧ od.block < w.heap.size) := Lib.hid (fun k h => by
    obtain ⟨od, e, hlt, _⟩ := hP.sl.lies (by omega)
    exact ⟨od, e, hlt⟩)
  have HAT : Hid (∀ k (h : k < ps.length), ∃ od, P = some od ∧ w.cell? (od.add (k * 5)) = some (.bool (decide (ps[k].r.q.num < 0))) ∧ w.cell? ⟨(od.add (k * 5)).block, (od.add (k * 5)).off + 1, none⟩ = some (.slice ps[k].r.N (dg ps[k].r.q.num.natAbs).length ps[k].r.cn) ∧
      w.cell? ⟨(od.add (k * 5)).block, (od.add (k * 5)).off + 2, none⟩ = some (.bool false) ∧ w.cell? ⟨(od.add (k * 5)).block, (od.add (k * 5)).off + 3, none⟩ = some (.slice ps[k].r.D (dg (dnz ps[k].r.q.den)).length ps[k].r.cd) ∧
      w.cell? ⟨(od.add (k * 5)).block, (od.add (k * 5)).off + 4, none⟩ = some (.slice ps[k].E v ps[k].ce)) := Lib.hid (fun k h => by
    have h1 := hP.at h
    rw [(hok.dp _ (List.getElem_mem h)).1] at h1
    exact h1)
  have HSH : Hid (∀ k (h : k < ps.length) V, Below w.heap.size w V → Calls Tryz.prog 62 #[.agg #[.int .i64 (v : Nat), .slice L nG cL], .agg #[.bool (decide (ps[k].r.q.num < 0)), .slice ps[k].r.N (dg ps[k].r.q.num.natAbs).length ps[k].r.cn, .bool false, .slice ps[k].r.D (dg (dnz ps[k].r.q.den)).length ps[k].r.cd, .slice ps[k].E v ps[k].ce]] V (fun e w' => ∃ R c out no, e = .returned (.agg #[.int .i64 (v : Nat), .slice R no c]) ∧ OwnTQ V.heap.size w' R c out ∧ out.length = no ∧ no ≤ 3 ∧ Eqv v (out.map TQ.qe) (shL (gs.map TQ.qe) ps[k].qe) ∧ (∀ t ∈ out, ∃ g, t.E = some ⟨g, 0, none⟩ ∧ Blk w' g 3 (iarr t.el)) ∧ Below V.heap.size V w')) := Lib.hid (fun k h V hb => by
    have hk := List.getElem_mem h
    have h1 := shift_any v (DG * DP) (KG * KP) L cL gs ps[k] V (hL.keep hb) ((hP.ok _ hk).keep hb) (hok.sh hk)
    unfold TQ.cells at h1
    rw [(hok.dp _ hk).1, hnG] at h1
    refine h1.mono ?_
    rintro e w' ⟨R, c, out, rfl, hO, hl1, hl2, ⟨us, hq, hd, hc⟩, hE, hb2⟩
    refine ⟨R, c, out, out.length, rfl, hO, rfl, ?_, ?_, hE, hb2⟩
    · unfold shL at hl2
      rw [List.length_map, List.length_map, hnG] at hl2
      omega
    · rw [hc, ← hq]
      exact eqv_col hd us.length)
  have HSU : Hid (∀ (us : List TQ) R c N V, us.length = N → N ≤ 9 → N ≤ c → TQs V R us → Eqv v (us.map TQ.qe) (prL (gs.map TQ.qe) ((ps.map TQ.qe).take nP)) → Calls Tryz.prog 51 #[.int .i64 (v : Nat), .slice R N c] V fun e w' => ∃ R dd out no, e = .returned (.agg #[.int .i64 (v : Nat), .slice R no dd]) ∧ OwnTQ V.heap.size w' R dd out ∧ out.length = no ∧ no ≤ 9 ∧ (∀ t ∈ out, ∃ s ∈ us, t.E = s.E ∧ t.el = s.el) ∧ Eqv v (out.map TQ.qe) (prL (gs.map TQ.qe) (ps.map TQ.qe)) ∧ (∃ us : List TQ, (∀ u ∈ us, ∃ x ∈ prL (gs.map TQ.qe) (ps.map TQ.qe), u.el = x.2) ∧ out.map TQ.qe = col ((msrt leT us.length us).map TQ.qe)) ∧ Below V.heap.size V w') := Lib.hid (fun us R c N V hl h9 hc hQ he => by
    subst hl
    have hkk := hok.kk
    have hd := fun t (ht : t ∈ us) => dim_pr hok he t.qe (qe_mem ht)
    have h1 := sum_any v (DG * DP) (KG * KP) (by omega) hkk.2.1 (by omega) us R c V (by omega) (Nat.lt_of_le_of_lt (Nat.mul_le_mul (show us.length + 1 ≤ 10 by omega) hkk.1) (by decide)) hc hQ (fun t ht => ⟨(hd t ht).1, (hd t ht).2.1⟩) (fun t ht => (hd t ht).2.2.1)
    refine h1.mono ?_
    rintro e w' ⟨R, dd, out, rfl, hO, hm, hl1, hl2, hq, hb⟩
    have htk : (ps.map TQ.qe).take nP = ps.map TQ.qe := List.take_of_length_le (by rw [List.length_map, hnP]; exact Nat.le_refl _)
    refine ⟨R, dd, out, out.length, rfl, hO, rfl, by omega, hm, ?_, ⟨us, fun u hu => (hd u hu).2.2.2, hq⟩, hb⟩
    rw [htk] at he
    rw [hq]
    exact (eqv_col (fun u hu => (hd u hu).1) us.length).trans he)
  rw [hnG, hnP]
  obtain ⟨G, hG⟩ : ∃ x, gs.map TQ.qe = x := ⟨_, rfl⟩
  obtain ⟨Q, hQ⟩ : ∃ x, ps.map TQ.qe = x := ⟨_, rfl⟩
  have HQ : Hid (∀ k (h : k < ps.length) (h2 : k < Q.length), Q[k] = ps[k].qe) := Lib.hid (fun k h h2 => by subst hQ; simp)
  have HQL : Hid (Q.length = ps.length) := Lib.hid (by rw [← hQ, List.length_map])
  rw [hG] at HSH
  rw [hG, hQ] at HSU ⊢
  obtain ⟨W, hW⟩ : ∃ W, ((w.alloc (.cells #[.int .i64 (v : Nat), .slice L nG cL] 65)).alloc (.cells #[.int .i64 (v : Nat), .slice P nP cP] 65)).alloc (.cells #[.int .i64 0, .slice none 0 0] 65) = W := ⟨_, rfl⟩
  have B2 : Blk W w.heap.size 65 #[.int .i64 (v : Nat), .slice L nG cL] := by rw [← hW]; exact ((Blk.new _ _ _).alloc _).alloc _
  have B3 : Blk W (w.heap.size + 1) 65 #[.int .i64 (v : Nat), .slice P nP cP] := by
    rw [← hW]; have := (Blk.new (w.alloc (.cells #[.int .i64 (v : Nat), .slice L nG cL] 65)) 65 #[.int .i64 (v : Nat), .slice P nP cP]).alloc (.cells #[.int .i64 0, .slice none 0 0] 65)
    simpa using this
  have B4 : Blk W (w.heap.size + 2) 65 #[.int .i64 0, .slice none 0 0] := by
    rw [← hW]; have := Blk.new ((w.alloc (.cells #[.int .i64 (v : Nat), .slice L nG cL] 65)).alloc (.cells #[.int .i64 (v : Nat), .slice P nP cP] 65)) 65 #[.int .i64 0, .slice none 0 0]
    simpa using this
  have hbW : Below w.heap.size w W := by rw [← hW]; exact (((Below.refl _ _).alloc (Nat.le_refl _) _).alloc (by simp) _).alloc (by simp; omega) _
  have HWW := Lib.hid hW
  have HST0 : Hid (TmSt w v L nG cL P nP cP G Q W 0 none 0 0 []) := Lib.hid ⟨hbW, B2, B3, B4, World.ownsRow_nil _ _ _ _, fun u h => absurd h (by simp), rfl, by omega, Eqv.nil v⟩
  clear hW hG hQ hok hL hP hnG hnP B2 B3 B4 hbW
  go_enter Tryz.func34, Tryz.ntmps34
  go_upto_region 1 with (fail)
  rw [HWW.out]
  clear HWW
  go_wp2
  go_loopw [6, 5] (fun s6 s5 wr => ∃ (k : Nat) (R : Option Addr) (c N : Nat) (us : List TQ), s6 = .int .i64 (k : Nat) ∧ k ≤ nP ∧ s5 = .slice R N c ∧ Hid (TmSt w v L nG cL P nP cP G Q wr k R c N us)) (fun s6 _ _ => nP - (intOf s6).toNat)
  case atStart => exact ⟨0, none, 0, 0, [], rfl, Nat.zero_le _, rfl, HST0⟩
  case round =>
    clear HST0
    obtain ⟨wo, rfl⟩ : ∃ wo : World, wo = wr := ⟨_, rfl⟩
    obtain ⟨k, R, c, N, us, rfl, hk, rfl, HST⟩ := hrel
    have hbr := HST.out.below
    have hz : w.heap.size + 3 ≤ wo.heap.size := by have := HST.out.b4.lt; omega
    obtain ⟨a0, a1, _, _⟩ := HST.out.b2.two
    obtain ⟨b0, b1, _, _⟩ := HST.out.b3.two
    have hN9 : N ≤ 9 := by have := HST.out.few; omega
    by_cases hlt : k < nP
    · have q0 : (0 : Int) ≤ (k : Int) := by omega
      have q1 : (k : Int) < (nP : Int) := by omega
      have q3 : ((k : Int)).toNat = k := by omega
      have e1 : decide ((k : Int) < (nP : Int)) = true := decide_eq_true (by omega)
      have hkt : k < ps.length := by rw [HNP.out]; exact hlt
      obtain ⟨pd, hpd, hpbl⟩ := HPI.out k hkt
      subst hpd
      have HC : Hid (w.cell? (pd.add (k * 5)) = some (.bool (decide (ps[k].r.q.num < 0))) ∧ w.cell? ⟨(pd.add (k * 5)).block, (pd.add (k * 5)).off + 1, none⟩ = some (.slice ps[k].r.N (dg ps[k].r.q.num.natAbs).length ps[k].r.cn) ∧
          w.cell? ⟨(pd.add (k * 5)).block, (pd.add (k * 5)).off + 2, none⟩ = some (.bool false) ∧ w.cell? ⟨(pd.add (k * 5)).block, (pd.add (k * 5)).off + 3, none⟩ = some (.slice ps[k].r.D (dg (dnz ps[k].r.q.den)).length ps[k].r.cd) ∧
          w.cell? ⟨(pd.add (k * 5)).block, (pd.add (k * 5)).off + 4, none⟩ = some (.slice ps[k].E v ps[k].ce)) := Lib.hid (by
        obtain ⟨od2, e, h⟩ := HAT.out k hkt
        injection e with e
        subst e
        exact h)
      have HSH1 := Lib.hid (HSH.out k hkt)
      have hkQ : k < Q.length := by rw [HQL.out]; exact hkt
      have HPR : Hid (prL G (Q.take (k + 1)) = prL G (Q.take k) ++ shL G ps[k].qe) := Lib.hid (by rw [prL_take G Q hkQ, HQ.out k hkt hkQ])
      obtain ⟨pq, hpq⟩ : ∃ x, ps[k].qe = x := ⟨_, rfl⟩
      rw [hpq] at HSH1 HPR
      clear hpq hkQ
      generalize ps[k] = t at *
      obtain ⟨⟨tq, tN, tcn, tD, tcd⟩, tE, tce, tel⟩ := t
      simp only at HC HSH1
      generalize (dg tq.num.natAbs).length = tn at *
      generalize (dg (dnz tq.den)).length = tm at *
      generalize decide (tq.num < 0) = ts1 at *
      obtain ⟨k0, k1, k2, k3, k4⟩ := HC.out
      have k0 := keep_cell hbr k0
      have k1 := keep_cell hbr k1
      have k2 := keep_cell hbr k2
      have k3 := keep_cell hbr k3
      have k4 := keep_cell hbr k4
      have HBR := Lib.hid hbr
      have ha3 : some w.heap.size ≠ (Value.slice R N c).ownBlock := fun e => by have := (HST.out.own.lt _ e.symm).1; omega
      have hb3 : some (w.heap.size + 1) ≠ (Value.slice R N c).ownBlock := fun e => by have := (HST.out.own.lt _ e.symm).1; omega
      have hk3 : some (pd.add (k * 5)).block ≠ (Value.slice R N c).ownBlock := fun e => by have := (HST.out.own.lt _ e.symm).1; rw [add_block] at this; omega
      clear hkt HSH HC HSU HPI HAT b0 hbr
      have hfd := field_P (v : Nat)
      go_upto_region 5 with (fail)
      have BZ : Below wo.heap.size wo wo.drew := (Below.refl _ _).drew
      refine wp_region_held_drew (S := (fun w' => w'.cell? ⟨w.heap.size, 0, none⟩ = some (.int .i64 (v : Nat)) ∧ w'.cell? ⟨w.heap.size, 1, none⟩ = some (.slice L nG cL) ∧ w'.cell? ⟨w.heap.size + 1, 1, none⟩ = some (.slice (some pd) nP cP) ∧ w'.cell? (pd.add (k * 5)) = some (.bool ts1) ∧ w'.cell? ⟨(pd.add (k * 5)).block, (pd.add (k * 5)).off + 1, none⟩ = some (.slice tN tn tcn) ∧ w'.cell? ⟨(pd.add (k * 5)).block, (pd.add (k * 5)).off + 2, none⟩ = some (.bool false) ∧ w'.cell? ⟨(pd.add (k * 5)).block, (pd.add (k * 5)).off + 3, none⟩ = some (.slice tD tm tcd) ∧ w'.cell? ⟨(pd.add (k * 5)).block, (pd.add (k * 5)).off + 4, none⟩ = some (.slice tE v tce))) (by kernel_rfl) ⟨keep_cell BZ a0, keep_cell BZ a1, keep_cell BZ b1, keep_cell BZ k0, keep_cell BZ k1, keep_cell BZ k2, keep_cell BZ k3, keep_cell BZ k4⟩ (fun hHeld => ?_)
      generalize wo.drew = Z at *
      refine wpAnyH_get 0 (some 14) (.slice R N c) rfl rfl (by kernel_rfl) (by kernel_rfl) (by kernel_rfl) (fun _ _ _ h => h) (by rfl) hHeld ?_ ?_
      · (intro w hSw; (try dsimp only at hSw); go_simp; all_goals (try with_reducible rfl))
      (try simp only [Act.put, List.setIfInBounds_toArray, List.set_cons_zero, List.set_cons_succ])
      refine wpAnyH_get 1 (some 15) (.agg #[.int .i64 (v : Nat), .slice L nG cL]) rfl rfl (by kernel_rfl) (by kernel_rfl) (by kernel_rfl) (fun _ _ _ h => h) (by rfl) hHeld ?_ ?_
      · (intro w hSw; (try dsimp only at hSw); go_simp; all_goals (try with_reducible rfl))
      (try simp only [Act.put, List.setIfInBounds_toArray, List.set_cons_zero, List.set_cons_succ])
      refine wpAnyH_get 2 (some 16) (.pointer (some ⟨w.heap.size + 1, 1, none⟩)) rfl rfl (by kernel_rfl) (by kernel_rfl) (by kernel_rfl) (fun _ _ _ h => h) (by rfl) hHeld ?_ ?_
      · (intro w hSw; (try dsimp only at hSw); go_simp; all_goals (try with_reducible rfl))
      (try simp only [Act.put, List.setIfInBounds_toArray, List.set_cons_zero, List.set_cons_succ])
      refine wpAnyH_get 3 (some 17) (.slice (some pd) nP cP) rfl rfl (by kernel_rfl) (by kernel_rfl) (by kernel_rfl) (fun _ _ _ h => h) (by rfl) hHeld ?_ ?_
      · (intro w hSw; (try dsimp only at hSw); go_simp; all_goals (try with_reducible rfl))
      (try simp only [Act.put, List.setIfInBounds_toArray, List.set_cons_zero, List.set_cons_succ])
      refine wpAnyH_get 4 (some 18) (.int .i64 (k : Nat)) rfl rfl (by kernel_rfl) (by kernel_rfl) (by kernel_rfl) (fun _ _ _ h => h) (by rfl) hHeld ?_ ?_
      · (intro w hSw; (try dsimp only at hSw); go_simp; all_goals (try with_reducible rfl))
      (try simp only [Act.put, List.setIfInBounds_toArray, List.set_cons_zero, List.set_cons_succ])
      refine wpAnyH_get 5 (some 19) (.pointer (some (pd.add (k * 5)))) rfl rfl (by kernel_rfl) (by kernel_rfl) (by kernel_rfl) (fun _ _ _ h => h) (by rfl) hHeld ?_ ?_
      · (intro w hSw; (try dsimp only at hSw); go_simp; all_goals (try with_reducible rfl))
      (try simp only [Act.put, List.setIfInBounds_toArray, List.set_cons_zero, List.set_cons_succ])
      refine wpAnyH_get 6 (some 20) (.agg #[.bool ts1, .slice tN tn tcn, .bool false, .slice tD tm tcd, .slice tE v tce]) rfl rfl (by kernel_rfl) (by kernel_rfl) (by kernel_rfl) (fun _ _ _ h => h) (by rfl) hHeld ?_ ?_
      · (intro w hSw; (try dsimp only at hSw); go_simp; all_goals (try with_reducible rfl))
      (try simp only [Act.put, List.setIfInBounds_toArray, List.set_cons_zero, List.set_cons_succ])
      refine wpAnyH_ready (rs := [7]) (by kernel_rfl) (by simp) ?_
      refine AllReadyH.cons rfl (fun K hK => ?_) AllReadyH.nil
      go_simp
      refine (HSH1.out _ (below_all HBR.out BZ)).mono ?_
      rintro e Z1 ⟨R7, c7, out, no, rfl, hO7, hno7, hn37, hE7, hB7, hb⟩
      have HO7 := Lib.hid hO7
      have HE7 := Lib.hid hE7
      have HB7 := Lib.hid hB7
      have HNO := Lib.hid hno7
      have BZ1 := below_all BZ hb
      clear hO7 hno7 hE7 hB7 hb
      (try go_simp)
      refine hK.out _ _ ⟨keep_cell BZ1 a0, keep_cell BZ1 a1, keep_cell BZ1 b1, keep_cell BZ1 k0, keep_cell BZ1 k1, keep_cell BZ1 k2, keep_cell BZ1 k3, keep_cell BZ1 k4⟩ (fun hHeld => ?_)
      clear hK K
      (try simp only [Act.put, List.setIfInBounds_toArray, List.set_cons_zero, List.set_cons_succ])
      refine wpAnyH_get 8 (some 22) (.slice R7 no c7) rfl rfl (by kernel_rfl) (by kernel_rfl) (by kernel_rfl) (fun _ _ _ h => h) (by rfl) hHeld ?_ ?_
      · (intro w hSw; (try dsimp only at hSw); go_simp; all_goals (try with_reducible rfl))
      (try simp only [Act.put, List.setIfInBounds_toArray, List.set_cons_zero, List.set_cons_succ])
      refine wpAnyH_ready (rs := [9]) (by kernel_rfl) (by simp) ?_
      refine AllReadyH.cons rfl (fun K hK => ?_) AllReadyH.nil
      have HS7 := Lib.hid (HST.out.keep BZ1)
      have hown7 := HS7.out.own
      have hsz7 := BZ1.size
      have hs7 : Sl Z1 R7 no 5 (out.flatMap TQ.cells) := by have h1 := HO7.out.tqs.sl; rw [HNO.out] at h1; exact h1
      refine step_app_tq (by rfl) _ _ (by rfl) (w.heap.size + 3) R c N (us.flatMap TQ.cells) (by simp [Act.eval]) hown7 R7 no c7 out HNO.out (by simp [Act.eval]) hs7 (by omega) (by omega) ?_
      intro A' c' Z2 hown8 hgrow
      have HNX : Hid (TmSt w v L nG cL (some pd) nP cP G Q Z2 (k + 1) A' c' (N + no) (us ++ out)) := Lib.hid (by
        have S7 := HS7.out
        refine ⟨S7.below.grown hgrow S7.below.size (fun q hq => by have := (hown7.lt q hq).1; omega), S7.b2.grown hgrow ha3, S7.b3.grown hgrow hb3, S7.b4.grown hgrow (fun e => by have := (hown7.lt _ e.symm).1; omega), ?_, fun u hu => ?_, by rw [List.length_append, S7.len, HNO.out], by have := S7.few; omega, ?_⟩
        · rw [List.flatMap_append]; exact hown8
        · rcases List.mem_append.1 hu with hu | hu
          · obtain ⟨h1, g, h2, h3⟩ := S7.ok u hu
            exact ⟨h1.grown hown7 hgrow (by decide), g, h2, h3.grown hgrow (own_blk_ne hown7 h3 (by decide))⟩
          · obtain ⟨g, h2, h3⟩ := HB7.out u hu
            exact ⟨(HO7.out.ok u hu).r.grown hown7 hgrow (by decide), g, h2, h3.grown hgrow (own_blk_ne hown7 h3 (by decide))⟩
        · rw [List.map_append, HPR.out]
          exact S7.eqv.append HE7.out)
      refine hK.out _ _ ⟨hgrow.cell (keep_cell BZ1 a0) ha3, hgrow.cell (keep_cell BZ1 a1) ha3, hgrow.cell (keep_cell BZ1 b1) hb3, hgrow.cell (keep_cell BZ1 k0) hk3, hgrow.cell (keep_cell BZ1 k1) hk3, hgrow.cell (keep_cell BZ1 k2) hk3, hgrow.cell (keep_cell BZ1 k3) hk3, hgrow.cell (keep_cell BZ1 k4) hk3⟩ (fun hHeld => ?_)
      clear hK K hown7 hown8 hgrow hs7 hsz7
      (try simp only [Act.put, List.setIfInBounds_toArray, List.set_cons_zero, List.set_cons_succ])
      refine wpAnyH_get 10 (some 5) (.slice A' (N + no) c') rfl rfl (by kernel_rfl) (by kernel_rfl) (by kernel_rfl) (fun _ _ _ h => h) (by rfl) hHeld ?_ ?_
      · (intro w hSw; (try dsimp only at hSw); go_simp; all_goals (try with_reducible rfl))
      (try simp only [Act.put, List.setIfInBounds_toArray, List.set_cons_zero, List.set_cons_succ])
      refine wpAnyH_done (by kernel_rfl) ?_ _
      go_wp2
      go_roundw
      case rel => exact ⟨k + 1, A', c', N + no, us ++ out, by go_num, by omega, rfl, HNX⟩
      case measure => simp [intOf]; omega
    · obtain rfl : k = nP := by omega
      have e1 : decide ((k : Int) < (k : Int)) = false := decide_eq_false (by omega)
      have hQ : TQs wo R us := ⟨by rw [HST.out.len]; exact Sl.own HST.out.own, fun u hu => by
        obtain ⟨h1, g, h2, h3⟩ := HST.out.ok u hu
        exact ⟨h1, by rw [h2]; exact blk_ints h3⟩⟩
      have hkc : N ≤ c := by
        obtain ⟨_, _, hv9, hcap, _⟩ := Sl.of_own HST.out.own
        injection hv9 with _ _ hv9
        omega
      have HS2 := Lib.hid (HSU.out us R c N wo HST.out.len hN9 hkc hQ HST.out.eqv)
      clear hQ HSU HSH
      go_wp2_with (go_at_call 51; refine HS2.out.mono ?_; rintro e w6 ⟨R6, c6, out, no, rfl, hO6, hno, hn9, hm6, he6, hq6, hb6⟩
                   have HO6 := Lib.hid hO6
                   have HM6 := Lib.hid hm6
                   have HQ6 := Lib.hid hq6
                   have HE6 := Lib.hid he6
                   have HN6 := Lib.hid (And.intro hno hn9)
                   clear hO6 hm6 hq6 he6 hno hn9
                   have K4 := HST.out.b4.keep hb6 HST.out.b4.lt
                   obtain ⟨d0, d1, d2, d3⟩ := K4.two)
      have hS6 := HO6.out.own
      rw [HN6.out.1] at hS6
      have hne4 := own_blk_ne hS6 K4 (by decide)
      have hbL := below_all hbr hb6
      have K5 := K4.set 0 (.int .i64 (v : Nat))
      have M4 := K5.set 1 (.slice R6 no c6)
      obtain ⟨e0, e1, _, _⟩ := M4.two
      refine bodyPost_ret (v := .agg #[.int .i64 (v : Nat), .slice R6 no c6]) (by simp [results, Tryz.results34, go_sem, e0, e1]) rfl ⟨R6, c6, out, by rw [HN6.out.1], ⟨?_, fun t ht => ?_⟩, by rw [HN6.out.1]; exact HN6.out.2, HE6.out, HQ6.out, below_far (below_far hbL (by omega) _ _) (by omega) _ _⟩
      · rw [HN6.out.1]
        exact Sl.own (own_far (p := ⟨w.heap.size + 2, 1, none⟩) (own_far (p := ⟨w.heap.size + 2, 0, none⟩) hS6 hne4 _) hne4 _)
      · refine ⟨((HO6.out.ok t ht).r.far K4 (by decide) 0 _).far K5 (by decide) 1 _, ?_⟩
        obtain ⟨u, hu, e1, e2⟩ := HM6.out t ht
        obtain ⟨_, g, h2, h3⟩ := HST.out.ok u hu
        have h3' := h3.keep hb6 h3.lt
        have hne : g ≠ w.heap.size + 2 := fun e => by
          rw [e] at h3'
          unfold Blk at h3' K4
          rw [K4] at h3'
          injection h3' with h1
          injection h1 with _ h2
          exact absurd h2 (by decide)
        rw [e1, e2, h2]
        exact blk_ints ((h3'.far hne _).far hne _)
end Go.Proofs.Tg
end
section
/- The program's Apply. -/
namespace Go.Proofs.Tg
open Go.RowKit Go.Gr Go.Ev Go.Qn Go.Mo
set_option maxHeartbeats 4000000
set_option maxRecDepth 100000
theorem But.own {g : Nat} {W W' : World} (h : But g W W') {base : Nat} {t : TypeId} {sz n : Nat} {v : Value} {xs : List Value} (ho : W.ownsRow base t sz v n xs) (hne : some g ≠ v.ownBlock) : W'.ownsRow base t sz v n xs := by
  refine ⟨ho.1, ?_⟩
  rcases ho.2 with h2 | ⟨g', cap, cur, rfl, hb, hg, r⟩
  · exact .inl h2
  · exact .inr ⟨g', cap, cur, rfl, hb, h.blk g' t cur (fun e => hne (by rw [e]; rfl)) hg, r⟩
theorem term_info : (Tryz.prog.info? 110).map (fun i => (i.zero, i.size, i.bytes)) = some (some (.agg #[.string ByteArray.empty, .slice none 0 0]), 2, 40) := by kernel_rfl
end Go.Proofs.Tg
end
section
/- The copy of a slice of numbers by append onto an empty slice of the call's own. -/
namespace Go.Proofs.Tg
open Go.RowKit
set_option maxHeartbeats 4000000
set_option maxRecDepth 100000
/-- At a step: the copy of a slice of numbers by append onto an empty slice of the call's own. -/
theorem step_clone {ops : Array Oper} {o : Oper} {a : Act} {K : Act → World → Prop} {Q : Exit → Act → World → Prop} {E0 : Prop} {w : World} (hgd : o.guard = none) (s x : Operand)
    (ho : o.op = .call { callee := .builtin .append, args := #[s, x], argTypes := #[41, 41] })
    (g0 base : Nat) (hs : a.eval s = .slice (some ⟨g0, 0, none⟩) 0 0) (hB : Blk w g0 3 #[]) (hb : base ≤ g0) (E : Option Addr) (ce : Nat) (el : List Int) (hx : a.eval x = .slice E el.length ce) (hI : Ints w E el) (hn : el.length ≤ 1000)
    (h : ∀ A c w', w'.ownsRow base 3 1 (.slice A el.length c) el.length (el.map vi) → Below g0 w w' → K (a.put o.dst (.slice A el.length c)) w') :
    if Region.wanted o (yielded ops a.tmps) = true then Oper.wp Tryz.prog o a w K Q else E0 := by
  have hw : Region.wanted o (yielded ops a.tmps) = true := by simp [Region.wanted, hgd]
  rw [if_pos hw]
  obtain ⟨ii, hii, iz0, iz1, iz2⟩ := info_parts int_info
  have hown : w.ownsRow base 3 1 (.slice (some ⟨g0, 0, none⟩) 0 0) 0 [] := ⟨rfl, .inr ⟨g0, 0, #[], rfl, hb, hB, Nat.le_refl _, by simp, by simp, by simp⟩⟩
  by_cases h0 : el = []
  · subst h0
    have hx' : a.eval x = .slice E 0 ce := hx
    have hr : (Builtin.append_ #[41, 41] o.type #[.slice (some ⟨g0, 0, none⟩) 0 0, .slice E 0 ce]).run Tryz.prog w = .ok (.slice (some ⟨g0, 0, none⟩) 0 0) w := by
      have hS : Src Tryz.prog ii.size 41 (.slice E 0 ce) 0 [] w := by
        cases E with
        | none => exact Src.ofNil _ Tryz.underlying41 ce
        | some ad => exact Src.ofSlice _ Tryz.underlying41 ad 0 ce [] (by simp) (by simp) (by simp)
      have := run_append_room_src (P := Tryz.prog) w 41 41 o.type 3 ii Tryz.underlying41 hii g0 0 0 0 (.slice E 0 ce) 0 [] hS (by simp) (by simp) (by simp)
      simpa [World.setCells] using this
    unfold Oper.wp execOp
    simp only [ho, resolve, invoke, builtin, Sem.run_bind, Sem.run_pure, Result.andThen_ok, List.map_toArray, List.map_cons, List.map_nil, hs, hx', hr]
    exact h (some ⟨g0, 0, none⟩) 0 w hown (Below.refl _ _)
  · have hp : 0 < el.length := List.length_pos_iff.2 h0
    obtain ⟨ad, rfl, _, hc⟩ := hI.lies hp
    have hlt := hB.lt
    refine wp_append_own w s x 41 ho base 3 ii (.int .i64 0) 1 8 Tryz.underlying41 hii iz0 iz1 iz2 rfl (by decide) _ 0 [] hs hown ad el.length ce (el.map vi) hx (by simp) hc (by simp [vi, Value.oneCell']) (by simp only [maxLen]; omega) (by omega) (by omega) ?_
    intro v' w' hown' hgrow _
    obtain ⟨A, c, rfl, _, _⟩ := Sl.of_own hown'
    have e : 0 + el.length = el.length := Nat.zero_add _
    rw [e] at hown' ⊢
    exact h A c w' hown' ((Below.refl _ _).grown hgrow (by omega) (fun j hj => by simp [Value.ownBlock] at hj; omega))
end Go.Proofs.Tg
end
section
/- The reference's Write: what it starts from and what its loop holds. -/
namespace Go.Proofs.Tg
open Go.RowKit Go.Gr Go.Mo Go.Qn
set_option maxHeartbeats 4000000
set_option maxRecDepth 100000
/-- The coefficient's cells hold the number with this text. -/
def RNm (w : World) (t : RT) (u : ByteArray) : Prop := ∃ b n m N cn D cd, n ≠ 0 ∧ n < 1000000000 ∧ m < 1000000000 ∧ m ≠ 0 ∧ t.c0 = .bool b ∧ t.c1 = .slice N (mg n).length cn ∧ t.c2 = .bool false ∧ t.c3 = .slice D (dl m).length cd ∧ Digs w N (mg n) ∧ Digs w D (dl m) ∧ bs (text b n m) = u
theorem RNm.keep {w w' : World} {t : RT} {s : ByteArray} (h : RNm w t s) (hb : Below w.heap.size w w') : RNm w' t s := by
  obtain ⟨b, n, m, N, cn, D, cd, h0, h2, h3, h4, h5, h6, h7, h8, h9, h10, h11⟩ := h
  exact ⟨b, n, m, N, cn, D, cd, h0, h2, h3, h4, h5, h6, h7, h8, h9.keep hb, h10.keep hb, h11⟩
theorem RNm.grown {w w' : World} {t : RT} {s : ByteArray} {ys : List Value} {b sz n : Nat} {ty : TypeId} {v : Value} (h : RNm w t s) (ho : w.ownsRow b ty sz v n ys) (hg : w.grownBy w' v.ownBlock) (hne : ty ≠ 137) : RNm w' t s := by
  obtain ⟨b, n, m, N, cn, D, cd, h0, h2, h3, h4, h5, h6, h7, h8, h9, h10, h11⟩ := h
  exact ⟨b, n, m, N, cn, D, cd, h0, h2, h3, h4, h5, h6, h7, h8, h9.grown ho hg hne, h10.grown ho hg hne, h11⟩
theorem RNm.far {w : World} {t : RT} {s : ByteArray} {g : Nat} {ty : TypeId} {cs : Array Value} (h : RNm w t s) (B : Blk w g ty cs) (hne : ty ≠ 137) (i : Nat) (u : Value) : RNm (w.setCell ⟨g, i, none⟩ u) t s := by
  obtain ⟨b, n, m, N, cn, D, cd, h0, h2, h3, h4, h5, h6, h7, h8, h9, h10, h11⟩ := h
  exact ⟨b, n, m, N, cn, D, cd, h0, h2, h3, h4, h5, h6, h7, h8, h9.far (h9.off_ty B hne) i u, h10.far (h10.off_ty B hne) i u, h11⟩
theorem RCo.rnm {w : World} {t : RT} {s : ByteArray} (h : RCo w t s) (hc : coefOk s = true) : RNm w t s := by
  obtain ⟨b, n, m, N, cn, D, cd, h1, h2, h3, h4, h5, h6, h7, h8, h9, h10⟩ := h
  obtain ⟨b', n', m', h1', h0⟩ := coef_some hc
  rw [h1] at h1'
  injection h1' with h1'
  injection h1' with e1 e2
  injection e2 with e2 e3
  subst e1 e2 e3
  refine ⟨b, n, m, N, cn, D, cd, h0, h2, h3, h4, h5, h6, h7, h8, h9, h10, ?_⟩
  rw [← (rd_some h1).2, bs_self]
theorem RCo.neg {w : World} {t : RT} {s : ByteArray} (h : RNm w t s) : ∃ b, t.c0 = .bool b ∧ RNm w { t with c0 := .bool (!b) } (negB s) := by
  obtain ⟨b, n, m, N, cn, D, cd, h0, h2, h3, h4, h5, h6, h7, h8, h9, h10, h11⟩ := h
  refine ⟨b, h5, !b, n, m, N, cn, D, cd, h0, h2, h3, h4, rfl, h6, h7, h8, h9, h10, ?_⟩
  subst h11
  unfold negB
  rw [show (bs (text b n m)).data.toList = text b n m by simp [bs], negL_text]
  rfl
/-- Terms that the call itself has made. -/
structure OwnTerms (base : Nat) (w : World) (A : Option Addr) (c : Nat) (tv : List TV) : Prop where
  own : w.ownsRow base 110 2 (.slice A tv.length c) tv.length (tv.flatMap TV.cells)
  mine : ∀ t ∈ tv, w.ownsRow base 3 1 (.slice t.adr t.exps.length t.cap) t.exps.length (t.exps.map vi)
theorem OwnTerms.terms {base : Nat} {w : World} {A : Option Addr} {c : Nat} {tv : List TV} (h : OwnTerms base w A c tv) : TermsAt w A tv := ⟨Sl.own h.own, fun t ht => Sl.own (h.mine t ht)⟩
theorem OwnTerms.far {base : Nat} {w : World} {A : Option Addr} {c : Nat} {tv : List TV} (h : OwnTerms base w A c tv) {g : Nat} (hg : g < base) (i : Nat) (u : Value) : OwnTerms base (w.setCell ⟨g, i, none⟩ u) A c tv :=
  ⟨own_far h.own (fun e => by have := (h.own.lt _ e.symm).1; simp only at this; omega) u, fun t ht => own_far (h.mine t ht) (fun e => by have := ((h.mine t ht).lt _ e.symm).1; simp only at this; omega) u⟩
/-- What the terms read as behind the writing. -/
def wrPl (us : List ByteArray) (ts : List RT) : List Term := List.zipWith (fun u t => (u, t.exps)) us ts
/-- What the writing has made after k terms. -/
structure WrSt (w : World) (v : Int) (O : Option Addr) (co : Nat) (us : List ByteArray) (ts : List RT) (wr : World) (k : Nat) (A : Option Addr) (c : Nat) (tv : List TV) : Prop where
  pl : tv.map TV.pl = (wrPl us ts).take k
  below : Below w.heap.size w wr
  b1 : Blk wr w.heap.size 65 #[.int .i64 v, .slice O ts.length co]
  b2 : Blk wr (w.heap.size + 1) 71 #[.int .i64 0, .slice none 0 0]
  b3 : Blk wr (w.heap.size + 1 + 1) 71 #[.int .i64 v, .slice A tv.length c]
  own : wr.ownsRow (w.heap.size + 3) 110 2 (.slice A tv.length c) tv.length (tv.flatMap TV.cells)
  mine : ∀ t ∈ tv, wr.ownsRow w.heap.size 3 1 (.slice t.adr t.exps.length t.cap) t.exps.length (t.exps.map vi)
theorem RT5.at {w : World} {T : Option Addr} {ts : List RT} (h : Sl w T ts.length 5 (ts.flatMap RT.cells)) {k : Nat} (hk : k < ts.length) :
    ∃ ad, T = some ad ∧ ad.block < w.heap.size ∧ w.cell? (ad.add (k * 5)) = some ts[k].c0 ∧ w.cell? ⟨(ad.add (k * 5)).block, (ad.add (k * 5)).off + 1, none⟩ = some ts[k].c1 ∧ w.cell? ⟨(ad.add (k * 5)).block, (ad.add (k * 5)).off + 2, none⟩ = some ts[k].c2 ∧
      w.cell? ⟨(ad.add (k * 5)).block, (ad.add (k * 5)).off + 3, none⟩ = some ts[k].c3 ∧ w.cell? ⟨(ad.add (k * 5)).block, (ad.add (k * 5)).off + 4, none⟩ = some (.slice ts[k].adr ts[k].exps.length ts[k].cap) := by
  obtain ⟨ad, rfl, hlt, ha⟩ := h.lies (by omega)
  have off : ∀ i, (⟨(ad.add (k * 5)).block, (ad.add (k * 5)).off + (i + 1), none⟩ : Addr) = ad.add (k * 5 + (i + 1)) := fun i => by rw [← add_add]; simp [Addr.add]
  have g := fun j hj => flat_get RT.cells 5 (fun _ => rfl) ts k j hk hj
  refine ⟨ad, rfl, hlt, ha _ _ ?_, (congrArg w.cell? (off 0)).trans (ha _ _ ?_), (congrArg w.cell? (off 1)).trans (ha _ _ ?_), (congrArg w.cell? (off 2)).trans (ha _ _ ?_), (congrArg w.cell? (off 3)).trans (ha _ _ ?_)⟩
  · have := g 0 (by omega); rw [Nat.add_zero] at this; exact this
  · exact g 1 (by omega)
  · exact g 2 (by omega)
  · exact g 3 (by omega)
  · exact g 4 (by omega)
end Go.Proofs.Tg
end
