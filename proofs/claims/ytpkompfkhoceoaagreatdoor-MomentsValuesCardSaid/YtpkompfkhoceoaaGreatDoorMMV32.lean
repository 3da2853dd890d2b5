/- Parts of the proof: VL2. -/
import Derived.Test.YtpkompfkhoceoaaGreatDoorMMV28
import Derived.Test.YtpkompfkhoceoaaGreatDoorMMV31
section
/- The reference's value of a functional at a polynomial. Printed by mk_vl2.py. -/
namespace Go.Proofs.Tg
open Go.RowKit Go.Gr Go.Bn Go.Rq Go.Mm Go.Mo Go.Rs
open Go.Proofs.Tg.Fi (QsAt)
set_option maxHeartbeats 16000000
set_option maxRecDepth 100000
theorem vblk5 {w : World} {g : Nat} {t : TypeId} {a b c d e : Value} (h : Blk w g t #[a, b, c, d, e]) : w.cell? ⟨g, 0, none⟩ = some a ∧ w.cell? ⟨g, 1, none⟩ = some b ∧ w.cell? ⟨g, 2, none⟩ = some c ∧ w.cell? ⟨g, 3, none⟩ = some d ∧ w.cell? ⟨g, 4, none⟩ = some e :=
  ⟨h.cell 0, h.cell 1, h.cell 2, h.cell 3, h.cell 4⟩
/-- What the loop of Value holds. -/
structure LvSt (w : World) (lc pc : Array Value) (wr : World) (r : RVal) : Prop where
  below : Below w.heap.size w wr
  b2 : Blk wr w.heap.size 29 lc
  b3 : Blk wr (w.heap.size + 1) 65 pc
  b4 : Blk wr (w.heap.size + 2) 52 #[.bool false, .slice none 0 0, .bool false, .slice none 0 0]
  b5 : RBlk wr (w.heap.size + 3) r
theorem LvSt.keep {w wr V : World} {lc pc : Array Value} {r : RVal} (h : LvSt w lc pc wr r) (hb : Below wr.heap.size wr V) : LvSt w lc pc V r := ⟨below_all h.below hb, h.b2.keep hb h.b2.lt, h.b3.keep hb h.b3.lt, h.b4.keep hb h.b4.lt, h.b5.keep hb⟩
theorem LvSt.put {w V : World} {lc pc : Array Value} {r r4 : RVal} (h : LvSt w lc pc V r) (h4 : r4.Ok V) : LvSt w lc pc ((((V.setCell ⟨w.heap.size + 3, 0, none⟩ (.bool (decide (r4.q.num < 0)))).setCell ⟨w.heap.size + 3, 1, none⟩ (.slice r4.N (dg r4.q.num.natAbs).length r4.cn)).setCell ⟨w.heap.size + 3, 2, none⟩ (.bool false)).setCell ⟨w.heap.size + 3, 3, none⟩ (.slice r4.D (dg (dnz r4.q.den)).length r4.cd)) r4 :=
  ⟨Below.four h.below (by omega), (((h.b2.far (by simp) _).far (by simp) _).far (by simp) _).far (by simp) _, (((h.b3.far (by simp) _).far (by simp) _).far (by simp) _).far (by simp) _, (((h.b4.far (by simp) _).far (by simp) _).far (by simp) _).far (by simp) _, RBlk.put h.b5.b h4⟩
/-- What the value's numbers must satisfy. -/
structure LvOk (v d : Nat) (φ : List Int → Rat) (out : List TQ) : Prop where
  mem : ∀ t ∈ out, t.el ∈ mons v d
  qt : ∀ t ∈ out, QS t.r.q
  qf : ∀ m ∈ mons v d, QS (φ m)
  qp : ∀ t ∈ out, QS (t.r.q * φ t.el)
  qs : ∀ k, k ≤ out.length → QS (lin φ ((out.map TQ.qe).take k))
theorem lval_any (v d n : Nat) (φ : List Int → Rat) (A : Option Addr) (c : Nat) (rs : List RVal) (v' : Int) (T : Option Addr) (cT tn : Nat) (out : List TQ) (w : World) (hQ : QsAt w A rs) (hn : rs.length = n) (hc : cnt v d = n) (hφ : rs.map RVal.q = (mons v d).map φ) (hT : TQs w T out) (htn : out.length = tn) (hok : LvOk v d φ out) (hv1 : 1 ≤ v) (hv : v ≤ 6) (hd : d ≤ 24) (htn2 : tn ≤ 4096) :
    Calls Tryz.prog 32 #[.agg #[.int .i64 (v : Nat), .int .i64 (d : Nat), .slice A n c], .agg #[.int .i64 v', .slice T tn cT]] w fun e w' => ∃ r : RVal, r.q = lin φ (out.map TQ.qe) ∧ e = .returned (.agg #[.bool (decide (r.q.num < 0)), .slice r.N (dg r.q.num.natAbs).length r.cn, .bool false, .slice r.D (dg (dnz r.q.den)).length r.cd]) ∧ r.Ok w' ∧ Below w.heap.size w w' := by
  have HTE : Hid (∀ k (h : k < out.length) V, Below w.heap.size w V → ∃ ad, T = some ad ∧ V.cell? (ad.add (k * 5)) = some (.bool (decide (out[k].r.q.num < 0))) ∧ V.cell? ⟨(ad.add (k * 5)).block, (ad.add (k * 5)).off + 1, none⟩ = some (.slice out[k].r.N (dg out[k].r.q.num.natAbs).length out[k].r.cn) ∧ V.cell? ⟨(ad.add (k * 5)).block, (ad.add (k * 5)).off + 2, none⟩ = some (.bool false) ∧
      V.cell? ⟨(ad.add (k * 5)).block, (ad.add (k * 5)).off + 3, none⟩ = some (.slice out[k].r.D (dg (dnz out[k].r.q.den)).length out[k].r.cd) ∧ V.cell? ⟨(ad.add (k * 5)).block, (ad.add (k * 5)).off + 4, none⟩ = some (.slice out[k].E v out[k].ce)) := Lib.hid (fun k h V hb => by
    have h1 := (hT.keep hb).at h
    rw [(mons_mem (hok.mem _ (List.getElem_mem h))).1] at h1
    exact h1)
  have HAT : Hid (∀ k (h : k < out.length) V, Below w.heap.size w V → Calls Tryz.prog 61 #[.agg #[.int .i64 (v : Nat), .int .i64 (d : Nat), .slice A n c], .slice out[k].E v out[k].ce] V fun e w' => ∃ r2 : RVal, r2.q = φ out[k].el ∧ e = .returned (.agg #[.bool (decide (r2.q.num < 0)), .slice r2.N (dg r2.q.num.natAbs).length r2.cn, .bool false, .slice r2.D (dg (dnz r2.q.den)).length r2.cd]) ∧ r2.Ok w' ∧ Below V.heap.size V w') := Lib.hid (fun k h V hb => by
    have hm := hok.mem _ (List.getElem_mem h)
    refine (lat_any v d n A c rs out[k].E out[k].ce out[k].el V (hQ.keep hb) hn hc ((hT.ok _ (List.getElem_mem h)).e.keep hb) hm hv1 hv hd).mono ?_
    rintro e w' ⟨r, hr, rfl, h1, h2⟩
    refine ⟨r, ?_, rfl, h1, h2⟩
    have h3 : (rs.map RVal.q)[rank out[k].el]? = some r.q := by rw [List.getElem?_map, hr]; rfl
    rw [hφ, List.getElem?_map, rank_at hm] at h3
    exact (Option.some.inj h3).symm)
  have HMU : Hid (∀ k (h : k < out.length) V (r2 : RVal), Below w.heap.size w V → r2.Ok V → r2.q = φ out[k].el → Calls Tryz.prog 26 #[.agg #[.bool (decide (out[k].r.q.num < 0)), .slice out[k].r.N (dg out[k].r.q.num.natAbs).length out[k].r.cn, .bool false, .slice out[k].r.D (dg (dnz out[k].r.q.den)).length out[k].r.cd], .agg #[.bool (decide (r2.q.num < 0)), .slice r2.N (dg r2.q.num.natAbs).length r2.cn, .bool false, .slice r2.D (dg (dnz r2.q.den)).length r2.cd]] V fun e w' => ∃ r3 : RVal, r3.q = out[k].r.q * r2.q ∧ e = .returned (.agg #[.bool (decide (r3.q.num < 0)), .slice r3.N (dg r3.q.num.natAbs).length r3.cn, .bool false, .slice r3.D (dg (dnz r3.q.den)).length r3.cd]) ∧ r3.Ok w' ∧ Below V.heap.size V w') := Lib.hid (fun k h V r2 hb h2 h3 => by
    have hm := List.getElem_mem h
    exact (rmul_q out[k].r.q r2.q out[k].r.val r2.val V ((hT.ok _ hm).r.keep hb).at h2.at (hok.qt _ hm) (by rw [h3]; exact hok.qf _ (hok.mem _ hm))).mono fun _ _ h => h.rval)
  have HAD : Hid (∀ k (h : k < out.length) V (r r2 r3 : RVal), r.Ok V → r3.Ok V → r.q = lin φ ((out.map TQ.qe).take k) → r2.q = φ out[k].el → r3.q = out[k].r.q * r2.q → Calls Tryz.prog 25 #[.agg #[.bool (decide (r.q.num < 0)), .slice r.N (dg r.q.num.natAbs).length r.cn, .bool false, .slice r.D (dg (dnz r.q.den)).length r.cd], .agg #[.bool (decide (r3.q.num < 0)), .slice r3.N (dg r3.q.num.natAbs).length r3.cn, .bool false, .slice r3.D (dg (dnz r3.q.den)).length r3.cd]] V fun e w' => ∃ r4 : RVal, r4.q = r.q + r3.q ∧ e = .returned (.agg #[.bool (decide (r4.q.num < 0)), .slice r4.N (dg r4.q.num.natAbs).length r4.cn, .bool false, .slice r4.D (dg (dnz r4.q.den)).length r4.cd]) ∧ r4.Ok w' ∧ Below V.heap.size V w') := Lib.hid (fun k h V r r2 r3 h1 h2 h3 h4 h5 => by
    have hm := List.getElem_mem h
    exact (radd_q r.q r3.q r.val r3.val V h1.at h2.at (by rw [h3]; exact hok.qs k (by omega)) (by rw [h5, h4]; exact hok.qp _ hm)).mono fun _ _ h => h.rval)
  have HLI : Hid (∀ k (h : k < out.length), lin φ ((out.map TQ.qe).take (k + 1)) = lin φ ((out.map TQ.qe).take k) + out[k].r.q * φ out[k].el) := Lib.hid (fun k h => by
    have h1 := lin_take (ψ := φ) (l := out.map TQ.qe) (k := k) (by rw [List.length_map]; exact h)
    rw [h1, List.getElem_map]; rfl)
  have HFN : Hid ((out.map TQ.qe).take tn = out.map TQ.qe) := Lib.hid (List.take_of_length_le (by rw [List.length_map, htn]; exact Nat.le_refl _))
  have HTN := Lib.hid htn
  obtain ⟨W, hW⟩ : ∃ W, (((w.alloc (.cells #[.int .i64 (v : Nat), .int .i64 (d : Nat), .slice A n c] 29)).alloc (.cells #[.int .i64 v', .slice T tn cT] 65)).alloc (.cells #[.bool false, .slice none 0 0, .bool false, .slice none 0 0] 52)).alloc (.cells #[.bool false, .slice none 0 0, .bool false, .slice none 0 0] 52) = W := ⟨_, rfl⟩
  have HBW : Hid (Below w.heap.size w W) := Lib.hid (by rw [← hW]; exact ((((Below.refl _ _).alloc (Nat.le_refl _) _).alloc (by simp) _).alloc (by simp; omega) _).alloc (by simp; omega) _)
  have HB1 : Hid (Blk W w.heap.size 29 #[.int .i64 (v : Nat), .int .i64 (d : Nat), .slice A n c]) := Lib.hid (by rw [← hW]; exact (((Blk.new _ _ _).alloc _).alloc _).alloc _)
  have HB2 : Hid (Blk W (w.heap.size + 1) 65 #[.int .i64 v', .slice T tn cT]) := Lib.hid (by
    rw [← hW]
    have := ((Blk.new (w.alloc (.cells #[.int .i64 (v : Nat), .int .i64 (d : Nat), .slice A n c] 29)) 65 #[.int .i64 v', .slice T tn cT]).alloc (.cells #[.bool false, .slice none 0 0, .bool false, .slice none 0 0] 52)).alloc (.cells #[.bool false, .slice none 0 0, .bool false, .slice none 0 0] 52)
    simpa using this)
  have HB4 : Hid (Blk W (w.heap.size + 2) 52 #[.bool false, .slice none 0 0, .bool false, .slice none 0 0]) := Lib.hid (by
    rw [← hW]
    have := (Blk.new ((w.alloc (.cells #[.int .i64 (v : Nat), .int .i64 (d : Nat), .slice A n c] 29)).alloc (.cells #[.int .i64 v', .slice T tn cT] 65)) 52 #[.bool false, .slice none 0 0, .bool false, .slice none 0 0]).alloc (.cells #[.bool false, .slice none 0 0, .bool false, .slice none 0 0] 52)
    simpa using this)
  have HB5 : Hid (RBlk W (w.heap.size + 3) rz) := Lib.hid (by
    rw [← hW]
    have := Blk.new (((w.alloc (.cells #[.int .i64 (v : Nat), .int .i64 (d : Nat), .slice A n c] 29)).alloc (.cells #[.int .i64 v', .slice T tn cT] 65)).alloc (.cells #[.bool false, .slice none 0 0, .bool false, .slice none 0 0] 52)) 52 #[.bool false, .slice none 0 0, .bool false, .slice none 0 0]
    exact rz_blk (by simpa using this))
  have HWW := Lib.hid hW
  have HST0 : Hid (LvSt w #[.int .i64 (v : Nat), .int .i64 (d : Nat), .slice A n c] #[.int .i64 v', .slice T tn cT] W rz) := Lib.hid ⟨HBW.out, HB1.out, HB2.out, HB4.out, HB5.out⟩
  obtain ⟨x0, x1, _, _⟩ := HB2.out.two
  clear hW hQ hn hc hφ hT htn hok HB1 HB2 HB4 HB5 HBW
  go_enter Tryz.func32, Tryz.ntmps32
  go_upto_region 2 with (fail)
  rw [HWW.out]
  clear HWW
  go_wp2
  go_loopw [11] (fun s11 wr => ∃ (k : Nat) (r : RVal), s11 = .int .i64 (k : Nat) ∧ k ≤ tn ∧ Hid (r.q = lin φ ((out.map TQ.qe).take k)) ∧ Hid (LvSt w #[.int .i64 (v : Nat), .int .i64 (d : Nat), .slice A n c] #[.int .i64 v', .slice T tn cT] wr r)) (fun s11 _ => tn - (intOf s11).toNat)
  case atStart => exact ⟨0, rz, rfl, Nat.zero_le _, Lib.hid rfl, HST0⟩
  case round =>
    clear HST0 x0 x1
    obtain ⟨wo, rfl⟩ : ∃ wo : World, wo = wr := ⟨_, rfl⟩
    obtain ⟨k, r, rfl, hk, HRQ, HST⟩ := hrel
    by_cases hkl : k < tn
    · have e1 : decide ((k : Int) < (tn : Int)) = true := decide_eq_true (by omega)
      have e1' : decide (k < tn) = true := decide_eq_true hkl
      have q1 : (0 : Int) ≤ (k : Int) := by omega
      have q2 : (k : Int) < (tn : Int) := by omega
      have hkt : k < out.length := by rw [HTN.out]; exact hkl
      obtain ⟨ad, hAD, c0, c1, c2, c3, c4⟩ := HTE.out k hkt wo HST.out.below
      subst hAD
      have HAT1 := Lib.hid (HAT.out k hkt)
      have HMU1 := Lib.hid (HMU.out k hkt)
      have HAD1 := Lib.hid (HAD.out k hkt)
      have HLI1 := Lib.hid (HLI.out k hkt)
      clear HAT HMU HAD HLI HTE
      generalize out[k] = t at *
      obtain ⟨⟨tq, tN, tcn, tD, tcd⟩, tE, tce, tel⟩ := t
      simp only at HAT1 HMU1 HAD1 HLI1 c0 c1 c2 c3 c4
      generalize (dg tq.num.natAbs).length = nt at *
      generalize (dg (dnz tq.den)).length = mt at *
      generalize decide (tq.num < 0) = st at *
      clear hkt
      go_upto_region 5 with (fail)
      obtain ⟨W3, hW3⟩ : ∃ W3, wo.alloc (.cells #[.bool st, .slice tN nt tcn, .bool false, .slice tD mt tcd, .slice tE v tce] 99) = W3 := ⟨_, rfl⟩
      rw [hW3]
      have hbE : Below wo.heap.size wo W3 := by rw [← hW3]; exact (Below.refl _ _).alloc (Nat.le_refl _) _
      have HE9 : Hid (Blk W3 wo.heap.size 99 #[.bool st, .slice tN nt tcn, .bool false, .slice tD mt tcd, .slice tE v tce]) := Lib.hid (by rw [← hW3]; exact Blk.new _ _ _)
      have hg7 : w.heap.size + 3 < wo.heap.size := HST.out.b5.b.lt
      have HST := Lib.hid (HST.out.keep hbE)
      generalize wo.heap.size = g7 at *
      obtain ⟨t0, t1, t2, t3, t4⟩ := vblk5 HE9.out
      obtain ⟨u0, u1, u2, _, _, _⟩ := HST.out.b2.three
      obtain ⟨z0, z1, z2, z3, _⟩ := HST.out.b5.b.four
      clear hW3 hbE c0 c1 c2 c3 c4
      have BZ : Below W3.heap.size W3 W3.drew := (Below.refl _ _).drew
      refine wp_region_held_drew (S := (fun w' => w'.cell? ⟨g7, 0, none⟩ = some (.bool st) ∧ w'.cell? ⟨g7, 1, none⟩ = some (.slice tN nt tcn) ∧ w'.cell? ⟨g7, 2, none⟩ = some (.bool false) ∧ w'.cell? ⟨g7, 3, none⟩ = some (.slice tD mt tcd) ∧ w'.cell? ⟨g7, 4, none⟩ = some (.slice tE v tce) ∧ w'.cell? ⟨w.heap.size, 0, none⟩ = some (.int .i64 (v : Nat)) ∧ w'.cell? ⟨w.heap.size, 1, none⟩ = some (.int .i64 (d : Nat)) ∧ w'.cell? ⟨w.heap.size, 2, none⟩ = some (.slice A n c))) (by kernel_rfl) ⟨keep_cell BZ t0, keep_cell BZ t1, keep_cell BZ t2, keep_cell BZ t3, keep_cell BZ t4, keep_cell BZ u0, keep_cell BZ u1, keep_cell BZ u2⟩ (fun hHeld => ?_)
      generalize W3.drew = Z at *
      refine wpAnyH_get 1 (some 16) (.pointer (some ⟨g7, 0, none⟩)) rfl rfl (by kernel_rfl) (by kernel_rfl) (by kernel_rfl) (fun _ _ _ h => h) (by rfl) hHeld ?_ ?_
      · (intro w hSw; (try dsimp only at hSw); go_simp; all_goals (try with_reducible rfl))
      (try simp only [Act.put, List.setIfInBounds_toArray, List.set_cons_zero, List.set_cons_succ])
      refine wpAnyH_get 2 (some 17) (.agg #[.bool st, .slice tN nt tcn, .bool false, .slice tD mt tcd]) rfl rfl (by kernel_rfl) (by kernel_rfl) (by kernel_rfl) (fun _ _ _ h => h) (by rfl) hHeld ?_ ?_
      · (intro w hSw; (try dsimp only at hSw); go_simp; all_goals (try with_reducible rfl))
      (try simp only [Act.put, List.setIfInBounds_toArray, List.set_cons_zero, List.set_cons_succ])
      refine wpAnyH_get 3 (some 18) (.agg #[.int .i64 (v : Nat), .int .i64 (d : Nat), .slice A n c]) rfl rfl (by kernel_rfl) (by kernel_rfl) (by kernel_rfl) (fun _ _ _ h => h) (by rfl) hHeld ?_ ?_
      · (intro w hSw; (try dsimp only at hSw); go_simp; all_goals (try with_reducible rfl))
      (try simp only [Act.put, List.setIfInBounds_toArray, List.set_cons_zero, List.set_cons_succ])
      refine wpAnyH_get 4 (some 19) (.pointer (some ⟨g7, 4, none⟩)) rfl rfl (by kernel_rfl) (by kernel_rfl) (by kernel_rfl) (fun _ _ _ h => h) (by rfl) hHeld ?_ ?_
      · (intro w hSw; (try dsimp only at hSw); go_simp; all_goals (try with_reducible rfl))
      (try simp only [Act.put, List.setIfInBounds_toArray, List.set_cons_zero, List.set_cons_succ])
      refine wpAnyH_get 5 (some 20) (.slice tE v tce) rfl rfl (by kernel_rfl) (by kernel_rfl) (by kernel_rfl) (fun _ _ _ h => h) (by rfl) hHeld ?_ ?_
      · (intro w hSw; (try dsimp only at hSw); go_simp; all_goals (try with_reducible rfl))
      (try simp only [Act.put, List.setIfInBounds_toArray, List.set_cons_zero, List.set_cons_succ])
      refine wpAnyH_ready (rs := [0, 6]) (by kernel_rfl) (by simp) ?_
      refine AllReadyH.cons rfl (fun K hK => ?_) (AllReadyH.cons rfl (fun K hK => ?_) AllReadyH.nil)
      · have k0 := keep_cell BZ z0
        have k1 := keep_cell BZ z1
        have k2 := keep_cell BZ z2
        have k3 := keep_cell BZ z3
        go_simp
        obtain ⟨Z1, rfl⟩ : ∃ x : World, x = Z := ⟨_, rfl⟩
        have BZ1 := BZ
        refine hK.out _ _ ⟨keep_cell BZ1 t0, keep_cell BZ1 t1, keep_cell BZ1 t2, keep_cell BZ1 t3, keep_cell BZ1 t4, keep_cell BZ1 u0, keep_cell BZ1 u1, keep_cell BZ1 u2⟩ (fun hHeld => ?_)
        clear hK K k0 k1 k2 k3
        (try simp only [Act.put, List.setIfInBounds_toArray, List.set_cons_zero, List.set_cons_succ])
        refine wpAnyH_ready (rs := [6]) (by kernel_rfl) (by simp) ?_
        refine AllReadyH.cons rfl (fun K hK => ?_) AllReadyH.nil
        go_simp
        refine (HAT1.out _ (below_all HST.out.below BZ1)).mono ?_
        rintro e Z2 ⟨r2, hq2, rfl, hok2, hb⟩
        have HQ2 := Lib.hid hq2
        have HOK2 := Lib.hid hok2
        clear hq2 hok2
        have BZ2 := below_all BZ1 hb
        (try go_simp)
        refine hK.out _ _ ⟨keep_cell BZ2 t0, keep_cell BZ2 t1, keep_cell BZ2 t2, keep_cell BZ2 t3, keep_cell BZ2 t4, keep_cell BZ2 u0, keep_cell BZ2 u1, keep_cell BZ2 u2⟩ (fun hHeld => ?_)
        clear hK K hb
        (try simp only [Act.put, List.setIfInBounds_toArray, List.set_cons_zero, List.set_cons_succ])
        refine wpAnyH_ready (rs := [7]) (by kernel_rfl) (by simp) ?_
        refine AllReadyH.cons rfl (fun K hK => ?_) AllReadyH.nil
        go_simp
        refine (HMU1.out _ r2 (below_all HST.out.below BZ2) HOK2.out HQ2.out).mono ?_
        rintro e Z3 ⟨r3, hq3, rfl, hok3, hb⟩
        have HQ3 := Lib.hid hq3
        have HOK3 := Lib.hid hok3
        clear hq3 hok3
        have BZ3 := below_all BZ2 hb
        (try go_simp)
        refine hK.out _ _ ⟨keep_cell BZ3 t0, keep_cell BZ3 t1, keep_cell BZ3 t2, keep_cell BZ3 t3, keep_cell BZ3 t4, keep_cell BZ3 u0, keep_cell BZ3 u1, keep_cell BZ3 u2⟩ (fun hHeld => ?_)
        clear hK K hb
        (try simp only [Act.put, List.setIfInBounds_toArray, List.set_cons_zero, List.set_cons_succ])
        refine wpAnyH_ready (rs := [8]) (by kernel_rfl) (by simp) ?_
        refine AllReadyH.cons rfl (fun K hK => ?_) AllReadyH.nil
        go_simp
        refine (HAD1.out _ r r2 r3 (HST.out.b5.ok.keep BZ3) HOK3.out HRQ.out HQ2.out HQ3.out).mono ?_
        rintro e Z4 ⟨r4, hq4, rfl, hok4, hb⟩
        have HQ4 := Lib.hid hq4
        have HOK4 := Lib.hid hok4
        clear hq4 hok4
        have BZ4 := below_all BZ3 hb
        (try go_simp)
        refine hK.out _ _ ⟨keep_cell BZ4 t0, keep_cell BZ4 t1, keep_cell BZ4 t2, keep_cell BZ4 t3, keep_cell BZ4 t4, keep_cell BZ4 u0, keep_cell BZ4 u1, keep_cell BZ4 u2⟩ (fun hHeld => ?_)
        clear hK K hb
        (try simp only [Act.put, List.setIfInBounds_toArray, List.set_cons_zero, List.set_cons_succ])
        refine wpAnyH_ready (rs := [9]) (by kernel_rfl) (by simp) ?_
        refine AllReadyH.cons rfl (fun K hK => ?_) AllReadyH.nil
        have HS9 := Lib.hid (HST.out.keep BZ4)
        obtain ⟨k0, k1, k2, k3, f0, f1, f2, f3⟩ := HS9.out.b5.b.four
        have HNEW := Lib.hid (HS9.out.put HOK4.out)
        have HRN : Hid (r4.q = lin φ ((out.map TQ.qe).take (k + 1))) := Lib.hid (by rw [HLI1.out, HQ4.out, HQ3.out, HQ2.out, HRQ.out])
        go_simp
        refine hK.out _ _ ⟨cell_four (keep_cell BZ4 t0) (by simp; omega), cell_four (keep_cell BZ4 t1) (by simp; omega), cell_four (keep_cell BZ4 t2) (by simp; omega), cell_four (keep_cell BZ4 t3) (by simp; omega), cell_four (keep_cell BZ4 t4) (by simp; omega), cell_four (keep_cell BZ4 u0) (by simp; omega), cell_four (keep_cell BZ4 u1) (by simp; omega), cell_four (keep_cell BZ4 u2) (by simp; omega)⟩ (fun hHeld => ?_)
        clear hK K k0 k1 k2 k3 f0 f1 f2 f3
        (try simp only [Act.put, List.setIfInBounds_toArray, List.set_cons_zero, List.set_cons_succ])
        refine wpAnyH_done (by kernel_rfl) ?_ _
        go_wp2
        go_roundw
        case rel => exact ⟨k + 1, r4, by go_num, by omega, HRN, HNEW⟩
        case measure => simp [intOf]; omega
      · go_simp
        refine (HAT1.out _ (below_all HST.out.below BZ)).mono ?_
        rintro e Z6 ⟨r2, hq2, rfl, hok2, hb⟩
        have HQ2 := Lib.hid hq2
        have HOK2 := Lib.hid hok2
        clear hq2 hok2
        have BZ6 := below_all BZ hb
        (try go_simp)
        refine hK.out _ _ ⟨keep_cell BZ6 t0, keep_cell BZ6 t1, keep_cell BZ6 t2, keep_cell BZ6 t3, keep_cell BZ6 t4, keep_cell BZ6 u0, keep_cell BZ6 u1, keep_cell BZ6 u2⟩ (fun hHeld => ?_)
        clear hK K hb
        (try simp only [Act.put, List.setIfInBounds_toArray, List.set_cons_zero, List.set_cons_succ])
        refine wpAnyH_ready (rs := [0, 7]) (by kernel_rfl) (by simp) ?_
        refine AllReadyH.cons rfl (fun K hK => ?_) (AllReadyH.cons rfl (fun K hK => ?_) AllReadyH.nil)
        · have k0 := keep_cell BZ6 z0
          have k1 := keep_cell BZ6 z1
          have k2 := keep_cell BZ6 z2
          have k3 := keep_cell BZ6 z3
          go_simp
          obtain ⟨Z7, rfl⟩ : ∃ x : World, x = Z6 := ⟨_, rfl⟩
          have BZ7 := BZ6
          refine hK.out _ _ ⟨keep_cell BZ7 t0, keep_cell BZ7 t1, keep_cell BZ7 t2, keep_cell BZ7 t3, keep_cell BZ7 t4, keep_cell BZ7 u0, keep_cell BZ7 u1, keep_cell BZ7 u2⟩ (fun hHeld => ?_)
          clear hK K k0 k1 k2 k3
          (try simp only [Act.put, List.setIfInBounds_toArray, List.set_cons_zero, List.set_cons_succ])
          refine wpAnyH_ready (rs := [7]) (by kernel_rfl) (by simp) ?_
          refine AllReadyH.cons rfl (fun K hK => ?_) AllReadyH.nil
          go_simp
          refine (HMU1.out _ r2 (below_all HST.out.below BZ7) HOK2.out HQ2.out).mono ?_
          rintro e Z8 ⟨r3, hq3, rfl, hok3, hb⟩
          have HQ3 := Lib.hid hq3
          have HOK3 := Lib.hid hok3
          clear hq3 hok3
          have BZ8 := below_all BZ7 hb
          (try go_simp)
          refine hK.out _ _ ⟨keep_cell BZ8 t0, keep_cell BZ8 t1, keep_cell BZ8 t2, keep_cell BZ8 t3, keep_cell BZ8 t4, keep_cell BZ8 u0, keep_cell BZ8 u1, keep_cell BZ8 u2⟩ (fun hHeld => ?_)
          clear hK K hb
          (try simp only [Act.put, List.setIfInBounds_toArray, List.set_cons_zero, List.set_cons_succ])
          refine wpAnyH_ready (rs := [8]) (by kernel_rfl) (by simp) ?_
          refine AllReadyH.cons rfl (fun K hK => ?_) AllReadyH.nil
          go_simp
          refine (HAD1.out _ r r2 r3 (HST.out.b5.ok.keep BZ8) HOK3.out HRQ.out HQ2.out HQ3.out).mono ?_
          rintro e Z9 ⟨r4, hq4, rfl, hok4, hb⟩
          have HQ4 := Lib.hid hq4
          have HOK4 := Lib.hid hok4
          clear hq4 hok4
          have BZ9 := below_all BZ8 hb
          (try go_simp)
          refine hK.out _ _ ⟨keep_cell BZ9 t0, keep_cell BZ9 t1, keep_cell BZ9 t2, keep_cell BZ9 t3, keep_cell BZ9 t4, keep_cell BZ9 u0, keep_cell BZ9 u1, keep_cell BZ9 u2⟩ (fun hHeld => ?_)
          clear hK K hb
          (try simp only [Act.put, List.setIfInBounds_toArray, List.set_cons_zero, List.set_cons_succ])
          refine wpAnyH_ready (rs := [9]) (by kernel_rfl) (by simp) ?_
          refine AllReadyH.cons rfl (fun K hK => ?_) AllReadyH.nil
          have HS9 := Lib.hid (HST.out.keep BZ9)
          obtain ⟨k0, k1, k2, k3, f0, f1, f2, f3⟩ := HS9.out.b5.b.four
          have HNEW := Lib.hid (HS9.out.put HOK4.out)
          have HRN : Hid (r4.q = lin φ ((out.map TQ.qe).take (k + 1))) := Lib.hid (by rw [HLI1.out, HQ4.out, HQ3.out, HQ2.out, HRQ.out])
          go_simp
          refine hK.out _ _ ⟨cell_four (keep_cell BZ9 t0) (by simp; omega), cell_four (keep_cell BZ9 t1) (by simp; omega), cell_four (keep_cell BZ9 t2) (by simp; omega), cell_four (keep_cell BZ9 t3) (by simp; omega), cell_four (keep_cell BZ9 t4) (by simp; omega), cell_four (keep_cell BZ9 u0) (by simp; omega), cell_four (keep_cell BZ9 u1) (by simp; omega), cell_four (keep_cell BZ9 u2) (by simp; omega)⟩ (fun hHeld => ?_)
          clear hK K k0 k1 k2 k3 f0 f1 f2 f3
          (try simp only [Act.put, List.setIfInBounds_toArray, List.set_cons_zero, List.set_cons_succ])
          refine wpAnyH_done (by kernel_rfl) ?_ _
          go_wp2
          go_roundw
          case rel => exact ⟨k + 1, r4, by go_num, by omega, HRN, HNEW⟩
          case measure => simp [intOf]; omega
        · go_simp
          refine (HMU1.out _ r2 (below_all HST.out.below BZ6) HOK2.out HQ2.out).mono ?_
          rintro e Z11 ⟨r3, hq3, rfl, hok3, hb⟩
          have HQ3 := Lib.hid hq3
          have HOK3 := Lib.hid hok3
          clear hq3 hok3
          have BZ11 := below_all BZ6 hb
          (try go_simp)
          refine hK.out _ _ ⟨keep_cell BZ11 t0, keep_cell BZ11 t1, keep_cell BZ11 t2, keep_cell BZ11 t3, keep_cell BZ11 t4, keep_cell BZ11 u0, keep_cell BZ11 u1, keep_cell BZ11 u2⟩ (fun hHeld => ?_)
          clear hK K hb
          (try simp only [Act.put, List.setIfInBounds_toArray, List.set_cons_zero, List.set_cons_succ])
          refine wpAnyH_ready (rs := [0]) (by kernel_rfl) (by simp) ?_
          refine AllReadyH.cons rfl (fun K hK => ?_) AllReadyH.nil
          have k0 := keep_cell BZ11 z0
          have k1 := keep_cell BZ11 z1
          have k2 := keep_cell BZ11 z2
          have k3 := keep_cell BZ11 z3
          go_simp
          obtain ⟨Z12, rfl⟩ : ∃ x : World, x = Z11 := ⟨_, rfl⟩
          have BZ12 := BZ11
          refine hK.out _ _ ⟨keep_cell BZ12 t0, keep_cell BZ12 t1, keep_cell BZ12 t2, keep_cell BZ12 t3, keep_cell BZ12 t4, keep_cell BZ12 u0, keep_cell BZ12 u1, keep_cell BZ12 u2⟩ (fun hHeld => ?_)
          clear hK K k0 k1 k2 k3
          (try simp only [Act.put, List.setIfInBounds_toArray, List.set_cons_zero, List.set_cons_succ])
          refine wpAnyH_ready (rs := [8]) (by kernel_rfl) (by simp) ?_
          refine AllReadyH.cons rfl (fun K hK => ?_) AllReadyH.nil
          go_simp
          refine (HAD1.out _ r r2 r3 (HST.out.b5.ok.keep BZ12) HOK3.out HRQ.out HQ2.out HQ3.out).mono ?_
          rintro e Z13 ⟨r4, hq4, rfl, hok4, hb⟩
          have HQ4 := Lib.hid hq4
          have HOK4 := Lib.hid hok4
          clear hq4 hok4
          have BZ13 := below_all BZ12 hb
          (try go_simp)
          refine hK.out _ _ ⟨keep_cell BZ13 t0, keep_cell BZ13 t1, keep_cell BZ13 t2, keep_cell BZ13 t3, keep_cell BZ13 t4, keep_cell BZ13 u0, keep_cell BZ13 u1, keep_cell BZ13 u2⟩ (fun hHeld => ?_)
          clear hK K hb
          (try simp only [Act.put, List.setIfInBounds_toArray, List.set_cons_zero, List.set_cons_succ])
          refine wpAnyH_ready (rs := [9]) (by kernel_rfl) (by simp) ?_
          refine AllReadyH.cons rfl (fun K hK => ?_) AllReadyH.nil
          have HS9 := Lib.hid (HST.out.keep BZ13)
          obtain ⟨k0, k1, k2, k3, f0, f1, f2, f3⟩ := HS9.out.b5.b.four
          have HNEW := Lib.hid (HS9.out.put HOK4.out)
          have HRN : Hid (r4.q = lin φ ((out.map TQ.qe).take (k + 1))) := Lib.hid (by rw [HLI1.out, HQ4.out, HQ3.out, HQ2.out, HRQ.out])
          go_simp
          refine hK.out _ _ ⟨cell_four (keep_cell BZ13 t0) (by simp; omega), cell_four (keep_cell BZ13 t1) (by simp; omega), cell_four (keep_cell BZ13 t2) (by simp; omega), cell_four (keep_cell BZ13 t3) (by simp; omega), cell_four (keep_cell BZ13 t4) (by simp; omega), cell_four (keep_cell BZ13 u0) (by simp; omega), cell_four (keep_cell BZ13 u1) (by simp; omega), cell_four (keep_cell BZ13 u2) (by simp; omega)⟩ (fun hHeld => ?_)
          clear hK K k0 k1 k2 k3 f0 f1 f2 f3
          (try simp only [Act.put, List.setIfInBounds_toArray, List.set_cons_zero, List.set_cons_succ])
          refine wpAnyH_done (by kernel_rfl) ?_ _
          go_wp2
          go_roundw
          case rel => exact ⟨k + 1, r4, by go_num, by omega, HRN, HNEW⟩
          case measure => simp [intOf]; omega
    · obtain rfl : k = tn := by omega
      have e1 : decide ((k : Int) < (k : Int)) = false := decide_eq_false (by omega)
      have e1' : decide (k < k) = false := decide_eq_false (by omega)
      have hZ := HST.out.b4
      have hok := HST.out.b5.ok
      have HRES : Hid (∃ r1 : RVal, r1.q = lin φ (out.map TQ.qe) ∧ (Ending.returned r.val) = .returned (.agg #[.bool (decide (r1.q.num < 0)), .slice r1.N (dg r1.q.num.natAbs).length r1.cn, .bool false, .slice r1.D (dg (dnz r1.q.den)).length r1.cd]) ∧ r1.Ok ((((wo.setCell ⟨w.heap.size + 2, 0, none⟩ (.bool (decide (r.q.num < 0)))).setCell ⟨w.heap.size + 2, 1, none⟩ (.slice r.N (dg r.q.num.natAbs).length r.cn)).setCell ⟨w.heap.size + 2, 2, none⟩ (.bool false)).setCell ⟨w.heap.size + 2, 3, none⟩ (.slice r.D (dg (dnz r.q.den)).length r.cd)) ∧
          Below w.heap.size w ((((wo.setCell ⟨w.heap.size + 2, 0, none⟩ (.bool (decide (r.q.num < 0)))).setCell ⟨w.heap.size + 2, 1, none⟩ (.slice r.N (dg r.q.num.natAbs).length r.cn)).setCell ⟨w.heap.size + 2, 2, none⟩ (.bool false)).setCell ⟨w.heap.size + 2, 3, none⟩ (.slice r.D (dg (dnz r.q.den)).length r.cd))) := Lib.hid
        ⟨r, by rw [HRQ.out, HFN.out], rfl, (RBlk.put hZ hok).ok, Below.four HST.out.below (by omega)⟩
      have HPUT : Hid (RBlk ((((wo.setCell ⟨w.heap.size + 2, 0, none⟩ (.bool (decide (r.q.num < 0)))).setCell ⟨w.heap.size + 2, 1, none⟩ (.slice r.N (dg r.q.num.natAbs).length r.cn)).setCell ⟨w.heap.size + 2, 2, none⟩ (.bool false)).setCell ⟨w.heap.size + 2, 3, none⟩ (.slice r.D (dg (dnz r.q.den)).length r.cd)) (w.heap.size + 2) r) := Lib.hid (RBlk.put hZ hok)
      obtain ⟨u0, u1, u2, u3, _⟩ := HST.out.b5.b.four
      obtain ⟨z0, z1, z2, z3, g0, g1, g2, g3⟩ := hZ.four
      clear hZ hok
      unfold RVal.val at HRES
      have HP := HPUT.out.b
      generalize decide (r.q.num < 0) = s1 at HRES HP u0
      generalize (dg r.q.num.natAbs).length = n1 at HRES HP u1
      generalize (dg (dnz r.q.den)).length = n2 at HRES HP u3
      obtain ⟨t0, t1, t2, t3, _⟩ := HP.four
      clear HP HPUT
      go_wp2
      exact bodyPost_ret (v := .agg #[.bool s1, .slice r.N n1 r.cn, .bool false, .slice r.D n2 r.cd]) (by simp [results, Tryz.results32, go_sem, t0, t1, t2, t3]) rfl HRES.out
end Go.Proofs.Tg
end
