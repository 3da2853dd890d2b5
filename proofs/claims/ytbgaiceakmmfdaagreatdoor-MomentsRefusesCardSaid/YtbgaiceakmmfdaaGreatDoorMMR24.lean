/- Parts of the proof: JC4, JD0, JA2. -/
import Derived.Deep.DeepCutAuto
import Derived.Test.YtbgaiceakmmfdaaGreatDoorMMR0
import Derived.Test.YtbgaiceakmmfdaaGreatDoorMMR8
import Derived.Test.YtbgaiceakmmfdaaGreatDoorMMR21
import Derived.Test.YtbgaiceakmmfdaaGreatDoorMMR23
set_option maxHeartbeats 64000000
set_option maxRecDepth 100000
namespace Go.Proofs.Tg.Iw
section
open Go.RowKit Go.Bw Go.Gr Go.Proofs.Tg Go.Rq
theorem cancel_more (z : Int) (b : Nat) (A B : Option Addr) (c d : Nat) (w : World) (hA : NW w A c z.natAbs) (hB : NW w B d b) (hb0 : b ≠ 0) (hb1 : b ≠ 1) (ha : (dg z.natAbs).length ≤ 400000) (hbl : (dg b).length ≤ 400000) (hs : (dg z.natAbs).length < 80 ∨ (dg b).length < 80) (hT : Tab w) :
    Calls Tryz.prog 47 #[.agg #[.bool (decide (z < 0)), .slice A (dg z.natAbs).length c], .agg #[.bool false, .slice B (dg b).length d]] w (RetZ2 (z.tdiv (Nat.gcd z.natAbs b : Nat)) (b / Nat.gcd z.natAbs b) w) := by
  obtain ⟨x, hx⟩ := eqx (decide (z < 0)); obtain ⟨na, hna⟩ := eqx ((dg z.natAbs).length); obtain ⟨nb, hnb⟩ := eqx ((dg b).length); rw [hx, hna, hnb]; obtain ⟨W, hW⟩ := eqx ((((w.alloc (.cells #[.bool x, .slice A na c] 68)).alloc (.cells #[.bool false, .slice B nb d] 68)).alloc (.cells #[.bool false, .slice none 0 0] 68)).alloc (.cells #[.bool false, .slice none 0 0] 68))
  have B0 : Blk W w.heap.size 68 #[.bool x, .slice A na c] := by rw [← hW]; exact (((Blk.new _ _ _).alloc _).alloc _).alloc _
  have B1 : Blk W (w.heap.size + 1) 68 #[.bool false, .slice B nb d] := by
   rw [← hW]; have := ((Blk.new (w.alloc (.cells #[.bool x, .slice A na c] 68)) 68 #[.bool false, .slice B nb d]).alloc (.cells #[.bool false, .slice none 0 0] 68)).alloc (.cells #[.bool false, .slice none 0 0] 68); simpa using this
  have B2 : Blk W (w.heap.size + 1 + 1) 68 #[.bool false, .slice none 0 0] := by
   rw [← hW]; have := (Blk.new ((w.alloc (.cells #[.bool x, .slice A na c] 68)).alloc (.cells #[.bool false, .slice B nb d] 68)) 68 #[.bool false, .slice none 0 0]).alloc (.cells #[.bool false, .slice none 0 0] 68); simpa using this
  have B3 : Blk W (w.heap.size + 1 + 1 + 1) 68 #[.bool false, .slice none 0 0] := by
   rw [← hW]; have := (Blk.new (((w.alloc (.cells #[.bool x, .slice A na c] 68)).alloc (.cells #[.bool false, .slice B nb d] 68)).alloc (.cells #[.bool false, .slice none 0 0] 68)) 68 #[.bool false, .slice none 0 0]); simpa using this
  have hbW : Below w.heap.size w W := by rw [← hW]; exact (((bal).alloc (by simp) _).alloc (by simp; omega) _).alloc (by simp; omega) _
  have HB0 := zh B0; have HB1 := zh B1; have HB2 := zh B2; have HB3 := zh B3; have HWW := zh hW; obtain ⟨g, hg⟩ := eqx (Nat.gcd z.natAbs b)
  have hg0 : g ≠ 0 := by rw [← hg]; exact Nat.pos_iff_ne_zero.1 (Nat.gcd_pos_of_pos_right _ (Nat.pos_of_ne_zero hb0))
  have hgb : (dg g).length ≤ (dg b).length := Go.Bw.dg_len_mono (by rw [← hg]; exact Nat.gcd_le_right _ (Nat.pos_of_ne_zero hb0))
  have hgz : z.natAbs ≠ 0 → (dg g).length ≤ (dg z.natAbs).length := fun h => Go.Bw.dg_len_mono (by rw [← hg]; exact Nat.gcd_le_left _ (Nat.pos_of_ne_zero h))
  have hs2 : (dg g).length < 80 ∨ (dg b).length < (dg g).length + 80 := by
   rcases hs with h | h
   ·by_cases hz : z.natAbs = 0
    ·right; rw [← hg, hz, Nat.gcd_zero_left]; omega
    ·left; have := hgz hz; omega
   ·left; omega
  have HO : Hid (Calls Tryz.prog 40 #[.agg #[.bool false, .slice B nb d]] W fun e w' => e = .returned (.bool false) ∧ Below W.heap.size W w') := zh (by
   have := isone_w B d b W (hB.keep hbW); rw [dF hb1] at this
   rw [← hnb]; exact this)
  have HG : Hid (∀ V, Below W.heap.size W V → Calls Tryz.prog 39 #[.agg #[.bool x, .slice A na c], .agg #[.bool false, .slice B nb d]] V (RetI false g V)) := zh (fun V hV => by
   rw [← hna, ← hnb, ← hg]; exact igcd_w A B c d z.natAbs b x false V ((hA.keep hbW).keep hV) ((hB.keep hbW).keep hV) ha hbl hs ((hT.below hbW hT.1).below hV (Nat.lt_of_lt_of_le hT.1 hbW.size)))
  unfold RetI at HG; obtain ⟨ng, hng⟩ := eqx ((dg g).length)
  have HQ1 : Hid (∀ V G cg, Below W.heap.size W V → NW V G cg g → Calls Tryz.prog 55 #[.agg #[.bool x, .slice A na c], .agg #[.bool false, .slice G ng cg]] V (RetZ (z.tdiv (g : Int)) V)) := zh (fun V G cg hV hG => by
   rw [← hx, ← hna, ← hng]; exact quo_w z g A G c cg V ((hA.keep hbW).keep hV) hG ha (by omega) hg0 (by omega))
  have HQ2 : Hid (∀ V G cg, Below W.heap.size W V → NW V G cg g → Calls Tryz.prog 55 #[.agg #[.bool false, .slice B nb d], .agg #[.bool false, .slice G ng cg]] V (RetZ ((b / g : Nat) : Int) V)) := zh (fun V G cg hV hG => by
   have h1 : (b : Int).tdiv (g : Int) = ((b / g : Nat) : Int) := by rw [Int.ofNat_tdiv]
   have h2 := quo_w (b : Int) g B G d cg V (by rw [Int.natAbs_natCast]; exact (hB.keep hbW).keep hV) hG (by rw [Int.natAbs_natCast]; exact hbl) (by omega) hg0 (by rw [Int.natAbs_natCast]; omega); rw [h1, Int.natAbs_natCast, dF (show ¬ (b : Int) < 0 by omega)] at h2
   rw [← hnb, ← hng]; exact h2)
  rw [hg]; obtain ⟨t, ht⟩ := eqx (z.tdiv (g : Int)); obtain ⟨m, hm⟩ := eqx (b / g); rw [ht] at HQ1 ⊢; rw [hm] at HQ2 ⊢; have HQ2' : Hid (∀ V G cg, Below W.heap.size W V → NW V G cg g → Calls Tryz.prog 55 #[.agg #[.bool false, .slice B nb d], .agg #[.bool false, .slice G ng cg]] V (RetSg false m V)) := zh (fun V G cg h1 h2 => by rw [← retz_nat]; exact HQ2.out V G cg h1 h2); clear HQ2; unfold RetZ at HQ1; unfold RetSg at HQ2'; unfold RetZ2; obtain ⟨s1, hs1⟩ := eqx (decide (t < 0)); obtain ⟨l1, hl1⟩ := eqx ((dg t.natAbs).length); obtain ⟨l2, hl2⟩ := eqx ((dg m).length); rw [hs1, hl1] at HQ1; rw [hl2] at HQ2'; rw [hs1, hl1, hl2]; rw [hng] at HG; obtain ⟨x0, x1, _, _⟩ := B0.two; obtain ⟨y0, y1, _, _⟩ := B1.two; have HBW := zh hbW
  have hWs : W.heap.size = w.heap.size + 4 := by rw [← hW]; simp
  clear hW hbW B0 B1 B2 B3 hA hB hx hna hnb hng hs1 hl1 hl2 hg0 hgb hgz hs2 hs ha hbl hb0 hb1 ht hm hT hg; go_enter Tryz.func47, Tryz.ntmps47; go_upto_region 1 with (fail); rw [HWW.out]
  go_upto_region 4 with (first
    | (go_at_call 40; refine HO.out.mono ?_; rintro e w1 ⟨rfl, hb1⟩; have HBE := zh hb1; obtain ⟨x0, x1, _, _⟩ := (HB0.out.keep hb1 HB0.out.lt).two; obtain ⟨y0, y1, _, _⟩ := (HB1.out.keep hb1 HB1.out.lt).two; clear hb1)
    | (go_at_call 39; refine (HG.out _ HBE.out).mono ?_; rintro e w2 ⟨G, cg, rfl, hG, hb2⟩; have HGG := zh hG; have HB4 := zh (below_all HBE.out hb2); clear hG hb2))
  obtain ⟨V, hV⟩ := eqx (w2.alloc (.cells #[.bool false, .slice G ng cg] 68))
  have hbV : Below w2.heap.size w2 V := by rw [← hV]; exact bal
  have C4 : Blk V w2.heap.size 68 #[.bool false, .slice G ng cg] := by rw [← hV]; exact Blk.new _ _ _
  have hWV := below_all HB4.out hbV; have C0 := HB0.out.keep hWV HB0.out.lt; have C1 := HB1.out.keep hWV HB1.out.lt; have C2 := HB2.out.keep hWV HB2.out.lt; have C3 := HB3.out.keep hWV HB3.out.lt; have HGV := zh (HGG.out.keep hbV); have HWV := zh hWV; have HP1 : Hid (∀ U, Below V.heap.size V U → Calls Tryz.prog 55 #[.agg #[.bool x, .slice A na c], .agg #[.bool false, .slice G ng cg]] U fun e w' => ∃ R1 k1, e = .returned (.agg #[.bool s1, .slice R1 l1 k1]) ∧ NW w' R1 k1 t.natAbs ∧ Below U.heap.size U w' ∧ Below V.heap.size V w') := zh (fun U hU => (HQ1.out U G cg (below_all HWV.out hU) (HGV.out.keep hU)).mono fun e w' ⟨R, k, h1, h2, h3⟩ => ⟨R, k, h1, h2, h3, below_all hU h3⟩)
  have HP2 : Hid (∀ U, Below V.heap.size V U → Calls Tryz.prog 55 #[.agg #[.bool false, .slice B nb d], .agg #[.bool false, .slice G ng cg]] U fun e w' => ∃ R2 k2, e = .returned (.agg #[.bool false, .slice R2 l2 k2]) ∧ NW w' R2 k2 m ∧ Below U.heap.size U w' ∧ Below V.heap.size V w') := zh (fun U hU => (HQ2'.out U G cg (below_all HWV.out hU) (HGV.out.keep hU)).mono fun e w' ⟨R, k, h1, h2, h3⟩ => ⟨R, k, h1, h2, h3, below_all hU h3⟩); have hbe : Below V.heap.size V V.drew := brf.drew; have hww := below_all HBW.out hWV; have HC0 := zh C0; have HC1 := zh C1; have HC2 := zh C2; have HC3 := zh C3; have HC4 := zh C4; obtain ⟨e0, e1, _, _⟩ := C0.two; obtain ⟨g0, g1, _, _⟩ := C1.two; obtain ⟨i0, i1, i2, i3⟩ := C2.two; obtain ⟨k0, k1, k2, k3⟩ := C3.two; obtain ⟨o0, o1, _, _⟩ := C4.two
  have hw2 : w.heap.size + 4 ≤ w2.heap.size := by rw [← hWs]; exact HB4.out.size
  rw [hV]; clear hV hbV C0 C1 C2 C3 C4 hWV HQ1 HQ2' HG HO; have m0 : (w.heap.size + 1 + 1 = w.heap.size) = False := eq_false (by omega); have m1 : (w.heap.size = w.heap.size + 1 + 1) = False := eq_false (by omega); have m2 : (w.heap.size + 1 + 1 = w.heap.size + 1) = False := eq_false (by omega); have m3 : (w.heap.size + 1 = w.heap.size + 1 + 1) = False := eq_false (by omega); have m4 : (w.heap.size + 1 + 1 = w2.heap.size) = False := eq_false (by omega); have m5 : (w2.heap.size = w.heap.size + 1 + 1) = False := eq_false (by omega); have m6 : (w.heap.size + 1 + 1 + 1 = w.heap.size) = False := eq_false (by omega); have m7 : (w.heap.size = w.heap.size + 1 + 1 + 1) = False := eq_false (by omega); have m8 : (w.heap.size + 1 + 1 + 1 = w.heap.size + 1) = False := eq_false (by omega); have m9 : (w.heap.size + 1 = w.heap.size + 1 + 1 + 1) = False := eq_false (by omega)
  have m10 : (w.heap.size + 1 + 1 + 1 = w2.heap.size) = False := eq_false (by omega); have m11 : (w2.heap.size = w.heap.size + 1 + 1 + 1) = False := eq_false (by omega); have m12 : (w.heap.size + 1 + 1 = w.heap.size + 1 + 1 + 1) = False := eq_false (by omega); have m13 : (w.heap.size + 1 + 1 + 1 = w.heap.size + 1 + 1) = False := eq_false (by omega)
  go_region_held3 (fun w' => w'.cell? ⟨w.heap.size, 0, none⟩ = some (.bool x) ∧ w'.cell? ⟨w.heap.size, 1, none⟩ = some (.slice A na c) ∧ w'.cell? ⟨w.heap.size + 1, 0, none⟩ = some (.bool false) ∧ w'.cell? ⟨w.heap.size + 1, 1, none⟩ = some (.slice B nb d) ∧ w'.cell? ⟨w2.heap.size, 0, none⟩ = some (.bool false) ∧ w'.cell? ⟨w2.heap.size, 1, none⟩ = some (.slice G ng cg))
    (first | exact ⟨keep_cell hbe e0, keep_cell hbe e1, keep_cell hbe g0, keep_cell hbe g1, keep_cell hbe o0, keep_cell hbe o1⟩ | exact ⟨e0, e1, g0, g1, o0, o1⟩ | go_keep | (refine ⟨?_, ?_, ?_, ?_, ?_, ?_⟩ <;> (simp [World.cell?_setCell, m0, m1, m2, m3, m4, m5, m6, m7, m8, m9, m10, m11, m12, m13] <;> first | exact e0 | exact e1 | exact g0 | exact g1 | exact o0 | exact o1)))
    (first
      | (go_at_call 55; with_reducible refine Calls.mono (HP1.out _ (by assumption)) ?_; rintro e w' ⟨R1, q1, rfl, hN1, hbu, hbe⟩; (try have hN2 := hN2.keep hbu); have D0 := HC0.out.keep hbe HC0.out.lt; have D1 := HC1.out.keep hbe HC1.out.lt; have D4 := HC4.out.keep hbe HC4.out.lt; obtain ⟨e0, e1, _, _⟩ := D0.two; obtain ⟨g0, g1, _, _⟩ := D1.two; obtain ⟨o0, o1, _, _⟩ := D4.two; have D2 := HC2.out.keep hbe HC2.out.lt; have D3 := HC3.out.keep hbe HC3.out.lt; obtain ⟨i0, i1, i2, i3⟩ := D2.two; obtain ⟨k0, k1, k2, k3⟩ := D3.two)
      | (go_at_call 55; with_reducible refine Calls.mono (HP2.out _ (by assumption)) ?_; rintro e w' ⟨R2, q2, rfl, hN2, hbu, hbe⟩; (try have hN1 := hN1.keep hbu); have D0 := HC0.out.keep hbe HC0.out.lt; have D1 := HC1.out.keep hbe HC1.out.lt; have D4 := HC4.out.keep hbe HC4.out.lt; obtain ⟨e0, e1, _, _⟩ := D0.two; obtain ⟨g0, g1, _, _⟩ := D1.two; obtain ⟨o0, o1, _, _⟩ := D4.two; have D2 := HC2.out.keep hbe HC2.out.lt; have D3 := HC3.out.keep hbe HC3.out.lt; obtain ⟨i0, i1, i2, i3⟩ := D2.two; obtain ⟨k0, k1, k2, k3⟩ := D3.two))
  all_goals
    go_wp2; refine bodyPost_ret (v := .tuple #[.agg #[.bool s1, .slice R1 l1 q1], .agg #[.bool false, .slice R2 l2 q2]]) (by simp [results, Tryz.results47, go_sem, i0, i1, k0, k1]) rfl ⟨R1, q1, R2, q2, rfl, ?_, ?_, ?_⟩
    ·exact (((hN1.far (hN1.off D2) _ _).far (hN1.off D2) _ _).far (hN1.off D3) _ _).far (hN1.off D3) _ _
    ·exact (((hN2.far (hN2.off D2) _ _).far (hN2.off D2) _ _).far (hN2.off D3) _ _).far (hN2.off D3) _ _
    ·exact below_far (below_far (below_far (below_far (below_all hww hbe) (by omega) _ _) (by omega) _ _) (by omega) _ _) (by omega) _ _
theorem cancel_w (z : Int) (b : Nat) (A B : Option Addr) (c d : Nat) (w : World) (hA : NW w A c z.natAbs) (hB : NW w B d b) (hb0 : b ≠ 0) (ha : (dg z.natAbs).length ≤ 400000) (hbl : (dg b).length ≤ 400000) (hs : (dg z.natAbs).length < 80 ∨ (dg b).length < 80) (hT : Tab w) :
    Calls Tryz.prog 47 #[.agg #[.bool (decide (z < 0)), .slice A (dg z.natAbs).length c], .agg #[.bool false, .slice B (dg b).length d]] w (RetZ2 (z.tdiv (Nat.gcd z.natAbs b : Nat)) (b / Nat.gcd z.natAbs b) w) := by
  by_cases h1 : b = 1
  ·subst h1; have e : Nat.gcd z.natAbs 1 = 1 := Nat.gcd_one_right _; rw [e, Nat.div_one, show z.tdiv ((1 : Nat) : Int) = z by simp]; exact cancel_one z A B c d w hA hB
  ·exact cancel_more z b A B c d w hA hB hb0 h1 ha hbl hs hT
theorem rz_two {V : World} {g : Nat} {t : TypeId} {a b : Value} (h : Blk V g t #[a, b]) (u v : Value) : Blk ((V.setCell ⟨g, 0, none⟩ u).setCell ⟨g, 1, none⟩ v) g t #[u, v] := by
 have := (h.set 0 u).set 1 v
 simpa using this
theorem rz_four {V : World} {g : Nat} {t : TypeId} {a b c d : Value} (h : Blk V g t #[a, b, c, d]) (u v y z : Value) : Blk ((((V.setCell ⟨g, 0, none⟩ u).setCell ⟨g, 1, none⟩ v).setCell ⟨g, 2, none⟩ y).setCell ⟨g, 3, none⟩ z) g t #[u, v, y, z] := by
 have := (((h.set 0 u).set 1 v).set 2 y).set 3 z
 simpa using this
theorem rz_far {V : World} {g k : Nat} {t : TypeId} {cs : Array Value} (h : Blk V g t cs) (hne : g ≠ k) (u v : Value) : Blk ((V.setCell ⟨k, 0, none⟩ u).setCell ⟨k, 1, none⟩ v) g t cs := (h.far hne _).far hne _
theorem rz_cell2 {V : World} {b o g : Nat} {x u v : Value} (h : V.cell? ⟨b, o, none⟩ = some x) (hne : b ≠ g) : ((V.setCell ⟨g, 0, none⟩ u).setCell ⟨g, 1, none⟩ v).cell? ⟨b, o, none⟩ = some x := by
 rw [World.cell?_setCell_other _ _ _ _ (by intro e; injection e with e; exact hne e.symm), World.cell?_setCell_other _ _ _ _ (by intro e; injection e with e; exact hne e.symm)]
 exact h
theorem rz_cell4 {V : World} {b o g : Nat} {x u v y z : Value} (h : V.cell? ⟨b, o, none⟩ = some x) (hne : b ≠ g) : ((((V.setCell ⟨g, 0, none⟩ u).setCell ⟨g, 1, none⟩ v).setCell ⟨g, 2, none⟩ y).setCell ⟨g, 3, none⟩ z).cell? ⟨b, o, none⟩ = some x := by
 rw [World.cell?_setCell_other _ _ _ _ (by intro e; injection e with e; exact hne e.symm), World.cell?_setCell_other _ _ _ _ (by intro e; injection e with e; exact hne e.symm)]
 exact rz_cell2 h hne
theorem rz_al (Z : World) (o : Obj) : Below Z.heap.size Z (Z.alloc o) := bal
theorem NW.two {w : World} {R : Option Addr} {c n g : Nat} {b : Bool} {S : Option Addr} {l m : Nat} (h : NW w R c n) (B : Blk w g 68 #[.bool b, .slice S l m]) (u v : Value) : NW ((w.setCell ⟨g, 0, none⟩ u).setCell ⟨g, 1, none⟩ v) R c n := (h.far (h.off B) 0 u).far (h.off B) 1 v
theorem rz_one {P : Program} {md : Region.Mode} {ops : Array Oper} {Q : Exit → Act → World → Prop} {S : World → Prop} {fuel : Nat} {listed : Array Bool} {a : Act} {w : World} {i : Nat} {o : Oper} (ho : ops[i]? = some o)
    (h : ∀ K' : Act → World → Prop, Shut (∀ a w, S w → (S w → wpAnyH P md ops Q S fuel (listed.setIfInBounds i true) a w) → K' a w) → if Region.wanted o (yielded ops a.tmps) = true then Oper.wp P o a w K' Q else K' (a.put o.dst undef) w) : AllReadyH P md ops Q S fuel listed a w [i] := AllReadyH.cons ho h AllReadyH.nil
theorem rz_get {P : Program} {md : Region.Mode} {ops : Array Oper} {Q : Exit → Act → World → Prop} {S : World → Prop} (i : Nat) (t : Tmp) (v : Value) {oi : Oper} {fuel : Nat} {listed : Array Bool} {a : Act} {w : World} (hi : ops[i]? = some oi) (hd : oi.dst = some t)
    (hs : Region.noSelect ops = true) (hf : (Region.free md ops listed i && (Region.ready md ops listed).contains i) = true)
    (hw : Region.wanted oi (yielded ops a.tmps) = true) (hS : S w) (hy : ∀ w, S w → (execOp a.eval oi).run P w = .ok (.value v) w) (h : wpAnyH P md ops Q S fuel (listed.setIfInBounds i true) (a.put (some t) v) w) (hQ : ∀ c a w, Q (.panic c) (a.put (some t) v) w → Q (.panic c) a w := by exact fun _ _ _ h => h) : wpAnyH P md ops Q S (fuel + 1) listed a w :=
  wpAnyH_get i (some t) v hi hd hs (Bool.and_eq_true_iff.1 hf).1 (Bool.and_eq_true_iff.1 hf).2 hQ hw hS hy h
theorem rz_put : (∀ (a : Act) (t : Tmp) (v : Value), a.put (some t) v = { a with tmps := a.tmps.setIfInBounds t v }) ∧ (∀ (l : List Value) (i : Nat) (v : Value), l.toArray.setIfInBounds i v = (l.set i v).toArray) ∧ (∀ (x v : Value) (l : List Value), (x :: l).set 0 v = v :: l) ∧ (∀ (x v : Value) (l : List Value) (i : Nat), (x :: l).set (i + 1) v = x :: l.set i v) :=
  ⟨fun _ _ _ => rfl, fun _ _ _ => by simp, fun _ _ _ => rfl, fun _ _ _ _ => rfl⟩
theorem mul_parts (p q : Rat) : (p * q).num = p.num.tdiv (Nat.gcd p.num.natAbs q.den : Nat) * q.num.tdiv (Nat.gcd q.num.natAbs p.den : Nat) ∧ (p * q).den = (p.den / Nat.gcd q.num.natAbs p.den) * (q.den / Nat.gcd p.num.natAbs q.den) := by
 have h : p * q = Rat.mul p q := rfl
 rw [h]
 unfold Rat.mul
 simp only [Int.divExact_eq_tdiv, Nat.divExact_eq_div]
 exact ⟨trivial, trivial⟩
end
end Go.Proofs.Tg.Iw
namespace Go.Proofs.Tg.Iw
section
open Go.RowKit Go.Bw Go.Gr Go.Proofs.Tg
theorem nAdd_same (p : Bool) (X Y : Option Addr) (cx cy a b : Nat) (w : World) (hX : NW w X cx a) (hY : NW w Y cy b) (ha : (dg a).length ≤ 400000) (hb : (dg b).length ≤ 400000) (hr : (dg (a + b)).length ≤ 1000000) :
    Calls Tryz.prog 54 #[.agg #[.bool p, .slice X (dg a).length cx], .agg #[.bool p, .slice Y (dg b).length cy]] w (RetSg (p && decide (0 < (dg (a + b)).length)) (a + b) w) := by
  obtain ⟨na, hna⟩ := eqx ((dg a).length); obtain ⟨nb, hnb⟩ := eqx ((dg b).length); obtain ⟨W, hW⟩ := eqx (((w.alloc (.cells #[.bool p, .slice X na cx] 68)).alloc (.cells #[.bool p, .slice Y nb cy] 68)).alloc (.cells #[.bool false, .slice none 0 0] 68))
  have B0 : Blk W w.heap.size 68 #[.bool p, .slice X na cx] := by rw [← hW]; exact ((Blk.new _ _ _).alloc _).alloc _
  have B1 : Blk W (w.heap.size + 1) 68 #[.bool p, .slice Y nb cy] := by
   rw [← hW]; have := (Blk.new (w.alloc (.cells #[.bool p, .slice X na cx] 68)) 68 #[.bool p, .slice Y nb cy]).alloc (.cells #[.bool false, .slice none 0 0] 68); simpa using this
  have B2 : Blk W (w.heap.size + 1 + 1) 68 #[.bool false, .slice none 0 0] := by
   rw [← hW]; have := Blk.new ((w.alloc (.cells #[.bool p, .slice X na cx] 68)).alloc (.cells #[.bool p, .slice Y nb cy] 68)) 68 #[.bool false, .slice none 0 0]; simpa using this
  have hbW : Below w.heap.size w W := by rw [← hW]; exact ((bal).alloc (by simp) _).alloc (by simp; omega) _
  have HF : Hid (∀ V, Below W.heap.size W V → Calls Tryz.prog 76 #[.slice X na cx, .slice Y nb cy] V (RetW (a + b) V)) := zh (fun V h => by rw [← hna, ← hnb]; exact addw_any X Y cx cy a b V ((hX.keep hbW).keep h) ((hY.keep hbW).keep h) ⟨by omega, by omega⟩); obtain ⟨m, hm⟩ := eqx (a + b); rw [hm] at HF hr ⊢; unfold RetW at HF; obtain ⟨nm, hnm⟩ := eqx ((dg m).length); have HLST : Hid (∀ (V : World) (R : Option Addr) (c : Nat) (v : Bool), Below W.heap.size W V → NW V R c m → Blk V (w.heap.size + 1 + 1) 68 #[.bool false, .slice none 0 0] → RetSg v m w (.returned (.agg #[.bool v, .slice R nm c])) ((V.setCell ⟨w.heap.size + 1 + 1, 0, none⟩ (.bool v)).setCell ⟨w.heap.size + 1 + 1, 1, none⟩ (.slice R nm c))) := zh (fun V R c v h1 h2 h3 => by rw [← hnm]; exact retSg_last hbW h1 h2 (by omega) h3)
  have HM : Hid (∀ V R c, Calls Tryz.prog 72 #[.bool p, .slice R nm c] V fun e w' => e = .returned (.agg #[.bool (p && decide (0 < nm)), .slice R nm c]) ∧ Below V.heap.size V w') := zh (fun V R c => signed_w (p) R nm c V _ rfl); rw [hnm] at HF ⊢; rw [hna, hnb]; obtain ⟨v, hv⟩ := eqx ((p && decide (0 < nm))); rw [hv] at HM ⊢; have HW := zh hW; have HB0 := zh B0; have HB1 := zh B1; have HB2 := zh B2; obtain ⟨a0, a1, _, _⟩ := B0.two; obtain ⟨b0, b1, _, _⟩ := B1.two; obtain ⟨d0, d1, d2, d3⟩ := B2.two; have hl2 := B2.lt; have n1 : (w.heap.size = w.heap.size + 1 + 1) = False := eq_false (by omega); have n2 : (w.heap.size + 1 + 1 = w.heap.size) = False := eq_false (by omega); have z0 := a0; have z1 := a1; have y0 := b0; have y1 := b1; clear hX hY hna hnb hm hnm hv hW B0 B1 B2 ha hb hr 
  cases p
  ·go_enter Tryz.func54, Tryz.ntmps54; go_upto_region 1 with (fail); rw [HW.out]; have hbe : Below W.heap.size W W.drew := brf.drew; go_upto_region 2 with (fail)
   go_region_held3 (fun w' => w'.cell? ⟨w.heap.size, 0, none⟩ = some (.bool false) ∧ w'.cell? ⟨w.heap.size, 1, none⟩ = some (.slice X na cx) ∧ w'.cell? ⟨w.heap.size + 1, 0, none⟩ = some (.bool false) ∧ w'.cell? ⟨w.heap.size + 1, 1, none⟩ = some (.slice Y nb cy))
     (first | exact ⟨keep_cell hbe a0, keep_cell hbe a1, keep_cell hbe b0, keep_cell hbe b1⟩ | exact ⟨keep_cell hbe z0, keep_cell hbe z1, keep_cell hbe y0, keep_cell hbe y1⟩ | go_keep | (dsimp only; refine ⟨?_, ?_, ?_, ?_⟩ <;> go_keep) | (refine ⟨?_, ?_, ?_, ?_⟩ <;> (rw [World.cell?_setCell_ne, World.cell?_setCell_ne] <;> first | exact keep_cell hbe z0 | exact keep_cell hbe z1 | exact keep_cell hbe y0 | exact keep_cell hbe y1 | (simp; omega) | simp)))
     (first
       | (go_at_call 76; with_reducible refine Calls.mono (HF.out _ (by assumption)) ?_; rintro e w5 ⟨R, cr, rfl, hR, hb5⟩
          have hbe := below_all hbe hb5)
       | (go_at_call 72; with_reducible refine Calls.mono (HM.out _ _ _) ?_; rintro e w6 ⟨rfl, hb6⟩
          have hR := hR.keep hb6; have hbe := below_all hbe hb6; have E2 := HB2.out.keep hbe hl2
          obtain ⟨d0, d1, d2, d3⟩ := E2.two))
   all_goals
     go_wp2; exact bodyPost_ret (v := .agg #[.bool v, .slice R nm cr]) (by simp [results, Tryz.results54, go_sem, d0, d1]) rfl (HLST.out w6 R cr v hbe hR E2)
  ·go_enter Tryz.func54, Tryz.ntmps54; go_upto_region 1 with (fail); rw [HW.out]; have hbe : Below W.heap.size W W.drew := brf.drew; go_upto_region 2 with (fail)
   go_region_held3 (fun w' => w'.cell? ⟨w.heap.size, 0, none⟩ = some (.bool true) ∧ w'.cell? ⟨w.heap.size, 1, none⟩ = some (.slice X na cx) ∧ w'.cell? ⟨w.heap.size + 1, 0, none⟩ = some (.bool true) ∧ w'.cell? ⟨w.heap.size + 1, 1, none⟩ = some (.slice Y nb cy))
     (first | exact ⟨keep_cell hbe a0, keep_cell hbe a1, keep_cell hbe b0, keep_cell hbe b1⟩ | exact ⟨keep_cell hbe z0, keep_cell hbe z1, keep_cell hbe y0, keep_cell hbe y1⟩ | go_keep | (dsimp only; refine ⟨?_, ?_, ?_, ?_⟩ <;> go_keep) | (refine ⟨?_, ?_, ?_, ?_⟩ <;> (rw [World.cell?_setCell_ne, World.cell?_setCell_ne] <;> first | exact keep_cell hbe z0 | exact keep_cell hbe z1 | exact keep_cell hbe y0 | exact keep_cell hbe y1 | (simp; omega) | simp)))
     (first
       | (go_at_call 76; with_reducible refine Calls.mono (HF.out _ (by assumption)) ?_; rintro e w5 ⟨R, cr, rfl, hR, hb5⟩
          have hbe := below_all hbe hb5)
       | (go_at_call 72; with_reducible refine Calls.mono (HM.out _ _ _) ?_; rintro e w6 ⟨rfl, hb6⟩
          have hR := hR.keep hb6; have hbe := below_all hbe hb6; have E2 := HB2.out.keep hbe hl2
          obtain ⟨d0, d1, d2, d3⟩ := E2.two))
   all_goals
     go_wp2; exact bodyPost_ret (v := .agg #[.bool v, .slice R nm cr]) (by simp [results, Tryz.results54, go_sem, d0, d1]) rfl (HLST.out w6 R cr v hbe hR E2)
theorem nAdd_ge (p q : Bool) (hpq : (p == q) = false) (X Y : Option Addr) (cx cy a b : Nat) (w : World) (hX : NW w X cx a) (hY : NW w Y cy b) (hab : b ≤ a) (ha : (dg a).length ≤ 400000) (hb : (dg b).length ≤ 400000) (hr : (dg (a - b)).length ≤ 1000000) :
    Calls Tryz.prog 54 #[.agg #[.bool p, .slice X (dg a).length cx], .agg #[.bool q, .slice Y (dg b).length cy]] w (RetSg (p && decide (0 < (dg (a - b)).length)) (a - b) w) := by
  obtain ⟨na, hna⟩ := eqx ((dg a).length); obtain ⟨nb, hnb⟩ := eqx ((dg b).length); obtain ⟨W, hW⟩ := eqx (((w.alloc (.cells #[.bool p, .slice X na cx] 68)).alloc (.cells #[.bool q, .slice Y nb cy] 68)).alloc (.cells #[.bool false, .slice none 0 0] 68))
  have B0 : Blk W w.heap.size 68 #[.bool p, .slice X na cx] := by rw [← hW]; exact ((Blk.new _ _ _).alloc _).alloc _
  have B1 : Blk W (w.heap.size + 1) 68 #[.bool q, .slice Y nb cy] := by
   rw [← hW]; have := (Blk.new (w.alloc (.cells #[.bool p, .slice X na cx] 68)) 68 #[.bool q, .slice Y nb cy]).alloc (.cells #[.bool false, .slice none 0 0] 68); simpa using this
  have B2 : Blk W (w.heap.size + 1 + 1) 68 #[.bool false, .slice none 0 0] := by
   rw [← hW]; have := Blk.new ((w.alloc (.cells #[.bool p, .slice X na cx] 68)).alloc (.cells #[.bool q, .slice Y nb cy] 68)) 68 #[.bool false, .slice none 0 0]; simpa using this
  have hbW : Below w.heap.size w W := by rw [← hW]; exact ((bal).alloc (by simp) _).alloc (by simp; omega) _
  have HF : Hid (∀ V, Below W.heap.size W V → Calls Tryz.prog 78 #[.slice X na cx, .slice Y nb cy] V (RetW (a - b) V)) := zh (fun V h => by rw [← hna, ← hnb]; exact subw_any X Y cx cy a b V ((hX.keep hbW).keep h) ((hY.keep hbW).keep h) hab (by omega)); obtain ⟨m, hm⟩ := eqx (a - b); rw [hm] at HF hr ⊢; unfold RetW at HF; obtain ⟨nm, hnm⟩ := eqx ((dg m).length); have HLST : Hid (∀ (V : World) (R : Option Addr) (c : Nat) (v : Bool), Below W.heap.size W V → NW V R c m → Blk V (w.heap.size + 1 + 1) 68 #[.bool false, .slice none 0 0] → RetSg v m w (.returned (.agg #[.bool v, .slice R nm c])) ((V.setCell ⟨w.heap.size + 1 + 1, 0, none⟩ (.bool v)).setCell ⟨w.heap.size + 1 + 1, 1, none⟩ (.slice R nm c))) := zh (fun V R c v h1 h2 h3 => by rw [← hnm]; exact retSg_last hbW h1 h2 (by omega) h3)
  have HM : Hid (∀ V R c, Calls Tryz.prog 72 #[.bool p, .slice R nm c] V fun e w' => e = .returned (.agg #[.bool (p && decide (0 < nm)), .slice R nm c]) ∧ Below V.heap.size V w') := zh (fun V R c => signed_w (p) R nm c V _ rfl); rw [hnm] at HF ⊢; have HC := zh (cmp_n X Y cx cy a b W (hX.keep hbW).wds (hY.keep hbW).wds (by omega)); rw [hna, hnb] at HC; obtain ⟨z, hz, hz0⟩ : ∃ z : Int, (if a < b then (-1 : Int) else if a = b then 0 else 1) = z ∧ 0 ≤ z := ⟨_, rfl, by rw [if_neg (by omega)]; split <;> decide⟩; rw [hz] at HC; have hzd : decide (z < 0) = false := dF (by omega); have hzd' : decide (0 ≤ z) = true := dT hz0; clear hz; rw [hna, hnb]; obtain ⟨v, hv⟩ := eqx ((p && decide (0 < nm))); rw [hv] at HM ⊢; have HW := zh hW; have HB0 := zh B0; have HB1 := zh B1; have HB2 := zh B2; obtain ⟨a0, a1, _, _⟩ := B0.two; obtain ⟨b0, b1, _, _⟩ := B1.two; obtain ⟨d0, d1, d2, d3⟩ := B2.two
  have hl2 := B2.lt; have n1 : (w.heap.size = w.heap.size + 1 + 1) = False := eq_false (by omega); have n2 : (w.heap.size + 1 + 1 = w.heap.size) = False := eq_false (by omega); have z0 := a0; have z1 := a1; have y0 := b0; have y1 := b1; clear hX hY hna hnb hm hnm hv hW B0 B1 B2 ha hb hr hab
  obtain ⟨rfl, rfl⟩ | ⟨rfl, rfl⟩ : (p = false ∧ q = true) ∨ (p = true ∧ q = false) := by revert hpq; cases p <;> cases q <;> decide
  ·go_enter Tryz.func54, Tryz.ntmps54; go_upto_region 1 with (fail); rw [HW.out]; go_upto_region 3 with (fail); go_wp2_with (fail); refine HC.out.mono ?_; rintro e W1 ⟨rfl, hdr⟩; have hbe : Below W.heap.size W W1.drew := hdr.below.drew; have hbe1 := hdr.below; clear hdr a0 a1 b0 b1 d0 d1 d2 d3; obtain ⟨a0, a1, _, _⟩ := (HB0.out.keep hbe1 HB0.out.lt).two; obtain ⟨b0, b1, _, _⟩ := (HB1.out.keep hbe1 HB1.out.lt).two; obtain ⟨d0, d1, d2, d3⟩ := (HB2.out.keep hbe1 HB2.out.lt).two; go_upto_region 4 with (fail)
   go_region_held3 (fun w' => w'.cell? ⟨w.heap.size, 0, none⟩ = some (.bool false) ∧ w'.cell? ⟨w.heap.size, 1, none⟩ = some (.slice X na cx) ∧ w'.cell? ⟨w.heap.size + 1, 0, none⟩ = some (.bool true) ∧ w'.cell? ⟨w.heap.size + 1, 1, none⟩ = some (.slice Y nb cy))
     (first | exact ⟨keep_cell hbe a0, keep_cell hbe a1, keep_cell hbe b0, keep_cell hbe b1⟩ | exact ⟨keep_cell hbe z0, keep_cell hbe z1, keep_cell hbe y0, keep_cell hbe y1⟩ | go_keep | (dsimp only; refine ⟨?_, ?_, ?_, ?_⟩ <;> go_keep) | (refine ⟨?_, ?_, ?_, ?_⟩ <;> (rw [World.cell?_setCell_ne, World.cell?_setCell_ne] <;> first | exact keep_cell hbe z0 | exact keep_cell hbe z1 | exact keep_cell hbe y0 | exact keep_cell hbe y1 | (simp; omega) | simp)))
     (first
       | (go_at_call 78; with_reducible refine Calls.mono (HF.out _ (by assumption)) ?_; rintro e w5 ⟨R, cr, rfl, hR, hb5⟩
          have hbe := below_all hbe hb5)
       | (go_at_call 72; with_reducible refine Calls.mono (HM.out _ _ _) ?_; rintro e w6 ⟨rfl, hb6⟩
          have hR := hR.keep hb6; have hbe := below_all hbe hb6; have E2 := HB2.out.keep hbe hl2
          obtain ⟨d0, d1, d2, d3⟩ := E2.two))
   all_goals
     go_wp2; exact bodyPost_ret (v := .agg #[.bool v, .slice R nm cr]) (by simp [results, Tryz.results54, go_sem, d0, d1]) rfl (HLST.out w6 R cr v hbe hR E2)
  ·go_enter Tryz.func54, Tryz.ntmps54; go_upto_region 1 with (fail); rw [HW.out]; go_upto_region 3 with (fail); go_wp2_with (fail); refine HC.out.mono ?_; rintro e W1 ⟨rfl, hdr⟩; have hbe : Below W.heap.size W W1.drew := hdr.below.drew; have hbe1 := hdr.below; clear hdr a0 a1 b0 b1 d0 d1 d2 d3; obtain ⟨a0, a1, _, _⟩ := (HB0.out.keep hbe1 HB0.out.lt).two; obtain ⟨b0, b1, _, _⟩ := (HB1.out.keep hbe1 HB1.out.lt).two; obtain ⟨d0, d1, d2, d3⟩ := (HB2.out.keep hbe1 HB2.out.lt).two; go_upto_region 4 with (fail)
   go_region_held3 (fun w' => w'.cell? ⟨w.heap.size, 0, none⟩ = some (.bool true) ∧ w'.cell? ⟨w.heap.size, 1, none⟩ = some (.slice X na cx) ∧ w'.cell? ⟨w.heap.size + 1, 0, none⟩ = some (.bool false) ∧ w'.cell? ⟨w.heap.size + 1, 1, none⟩ = some (.slice Y nb cy))
     (first | exact ⟨keep_cell hbe a0, keep_cell hbe a1, keep_cell hbe b0, keep_cell hbe b1⟩ | exact ⟨keep_cell hbe z0, keep_cell hbe z1, keep_cell hbe y0, keep_cell hbe y1⟩ | go_keep | (dsimp only; refine ⟨?_, ?_, ?_, ?_⟩ <;> go_keep) | (refine ⟨?_, ?_, ?_, ?_⟩ <;> (rw [World.cell?_setCell_ne, World.cell?_setCell_ne] <;> first | exact keep_cell hbe z0 | exact keep_cell hbe z1 | exact keep_cell hbe y0 | exact keep_cell hbe y1 | (simp; omega) | simp)))
     (first
       | (go_at_call 78; with_reducible refine Calls.mono (HF.out _ (by assumption)) ?_; rintro e w5 ⟨R, cr, rfl, hR, hb5⟩
          have hbe := below_all hbe hb5)
       | (go_at_call 72; with_reducible refine Calls.mono (HM.out _ _ _) ?_; rintro e w6 ⟨rfl, hb6⟩
          have hR := hR.keep hb6; have hbe := below_all hbe hb6; have E2 := HB2.out.keep hbe hl2
          obtain ⟨d0, d1, d2, d3⟩ := E2.two))
   all_goals
     go_wp2; exact bodyPost_ret (v := .agg #[.bool v, .slice R nm cr]) (by simp [results, Tryz.results54, go_sem, d0, d1]) rfl (HLST.out w6 R cr v hbe hR E2)
theorem nAdd_lt (p q : Bool) (hpq : (p == q) = false) (X Y : Option Addr) (cx cy a b : Nat) (w : World) (hX : NW w X cx a) (hY : NW w Y cy b) (hab : a < b) (ha : (dg a).length ≤ 400000) (hb : (dg b).length ≤ 400000) (hr : (dg (b - a)).length ≤ 1000000) :
    Calls Tryz.prog 54 #[.agg #[.bool p, .slice X (dg a).length cx], .agg #[.bool q, .slice Y (dg b).length cy]] w (RetSg (q && decide (0 < (dg (b - a)).length)) (b - a) w) := by
  obtain ⟨na, hna⟩ := eqx ((dg a).length); obtain ⟨nb, hnb⟩ := eqx ((dg b).length); obtain ⟨W, hW⟩ := eqx (((w.alloc (.cells #[.bool p, .slice X na cx] 68)).alloc (.cells #[.bool q, .slice Y nb cy] 68)).alloc (.cells #[.bool false, .slice none 0 0] 68))
  have B0 : Blk W w.heap.size 68 #[.bool p, .slice X na cx] := by rw [← hW]; exact ((Blk.new _ _ _).alloc _).alloc _
  have B1 : Blk W (w.heap.size + 1) 68 #[.bool q, .slice Y nb cy] := by
   rw [← hW]; have := (Blk.new (w.alloc (.cells #[.bool p, .slice X na cx] 68)) 68 #[.bool q, .slice Y nb cy]).alloc (.cells #[.bool false, .slice none 0 0] 68); simpa using this
  have B2 : Blk W (w.heap.size + 1 + 1) 68 #[.bool false, .slice none 0 0] := by
   rw [← hW]; have := Blk.new ((w.alloc (.cells #[.bool p, .slice X na cx] 68)).alloc (.cells #[.bool q, .slice Y nb cy] 68)) 68 #[.bool false, .slice none 0 0]; simpa using this
  have hbW : Below w.heap.size w W := by rw [← hW]; exact ((bal).alloc (by simp) _).alloc (by simp; omega) _
  have HF : Hid (∀ V, Below W.heap.size W V → Calls Tryz.prog 78 #[.slice Y nb cy, .slice X na cx] V (RetW (b - a) V)) := zh (fun V h => by rw [← hna, ← hnb]; exact subw_any Y X cy cx b a V ((hY.keep hbW).keep h) ((hX.keep hbW).keep h) (by omega) (by omega)); obtain ⟨m, hm⟩ := eqx (b - a); rw [hm] at HF hr ⊢; unfold RetW at HF; obtain ⟨nm, hnm⟩ := eqx ((dg m).length); have HLST : Hid (∀ (V : World) (R : Option Addr) (c : Nat) (v : Bool), Below W.heap.size W V → NW V R c m → Blk V (w.heap.size + 1 + 1) 68 #[.bool false, .slice none 0 0] → RetSg v m w (.returned (.agg #[.bool v, .slice R nm c])) ((V.setCell ⟨w.heap.size + 1 + 1, 0, none⟩ (.bool v)).setCell ⟨w.heap.size + 1 + 1, 1, none⟩ (.slice R nm c))) := zh (fun V R c v h1 h2 h3 => by rw [← hnm]; exact retSg_last hbW h1 h2 (by omega) h3)
  have HM : Hid (∀ V R c, Calls Tryz.prog 72 #[.bool q, .slice R nm c] V fun e w' => e = .returned (.agg #[.bool (q && decide (0 < nm)), .slice R nm c]) ∧ Below V.heap.size V w') := zh (fun V R c => signed_w (q) R nm c V _ rfl); rw [hnm] at HF ⊢; have HC := zh (cmp_n X Y cx cy a b W (hX.keep hbW).wds (hY.keep hbW).wds (by omega)); rw [hna, hnb] at HC; rw [if_pos hab] at HC; rw [hna, hnb]; obtain ⟨v, hv⟩ := eqx ((q && decide (0 < nm))); rw [hv] at HM ⊢; have HW := zh hW; have HB0 := zh B0; have HB1 := zh B1; have HB2 := zh B2; obtain ⟨a0, a1, _, _⟩ := B0.two; obtain ⟨b0, b1, _, _⟩ := B1.two; obtain ⟨d0, d1, d2, d3⟩ := B2.two; have hl2 := B2.lt; have n1 : (w.heap.size = w.heap.size + 1 + 1) = False := eq_false (by omega); have n2 : (w.heap.size + 1 + 1 = w.heap.size) = False := eq_false (by omega); have z0 := a0; have z1 := a1; have y0 := b0; have y1 := b1
  clear hX hY hna hnb hm hnm hv hW B0 B1 B2 ha hb hr hab
  obtain ⟨rfl, rfl⟩ | ⟨rfl, rfl⟩ : (p = false ∧ q = true) ∨ (p = true ∧ q = false) := by revert hpq; cases p <;> cases q <;> decide
  ·go_enter Tryz.func54, Tryz.ntmps54; go_upto_region 1 with (fail); rw [HW.out]; go_upto_region 3 with (fail); go_wp2_with (fail); refine HC.out.mono ?_; rintro e W1 ⟨rfl, hdr⟩; have hbe : Below W.heap.size W W1.drew := hdr.below.drew; have hbe1 := hdr.below; clear hdr a0 a1 b0 b1 d0 d1 d2 d3; obtain ⟨a0, a1, _, _⟩ := (HB0.out.keep hbe1 HB0.out.lt).two; obtain ⟨b0, b1, _, _⟩ := (HB1.out.keep hbe1 HB1.out.lt).two; obtain ⟨d0, d1, d2, d3⟩ := (HB2.out.keep hbe1 HB2.out.lt).two; go_upto_region 5 with (fail)
   go_region_held3 (fun w' => w'.cell? ⟨w.heap.size, 0, none⟩ = some (.bool false) ∧ w'.cell? ⟨w.heap.size, 1, none⟩ = some (.slice X na cx) ∧ w'.cell? ⟨w.heap.size + 1, 0, none⟩ = some (.bool true) ∧ w'.cell? ⟨w.heap.size + 1, 1, none⟩ = some (.slice Y nb cy))
     (first | exact ⟨keep_cell hbe a0, keep_cell hbe a1, keep_cell hbe b0, keep_cell hbe b1⟩ | exact ⟨keep_cell hbe z0, keep_cell hbe z1, keep_cell hbe y0, keep_cell hbe y1⟩ | go_keep | (dsimp only; refine ⟨?_, ?_, ?_, ?_⟩ <;> go_keep) | (refine ⟨?_, ?_, ?_, ?_⟩ <;> (rw [World.cell?_setCell_ne, World.cell?_setCell_ne] <;> first | exact keep_cell hbe z0 | exact keep_cell hbe z1 | exact keep_cell hbe y0 | exact keep_cell hbe y1 | (simp; omega) | simp)))
     (first
       | (go_at_call 78; with_reducible refine Calls.mono (HF.out _ (by assumption)) ?_; rintro e w5 ⟨R, cr, rfl, hR, hb5⟩
          have hbe := below_all hbe hb5)
       | (go_at_call 72; with_reducible refine Calls.mono (HM.out _ _ _) ?_; rintro e w6 ⟨rfl, hb6⟩
          have hR := hR.keep hb6; have hbe := below_all hbe hb6; have E2 := HB2.out.keep hbe hl2
          obtain ⟨d0, d1, d2, d3⟩ := E2.two))
   all_goals
     go_wp2; exact bodyPost_ret (v := .agg #[.bool v, .slice R nm cr]) (by simp [results, Tryz.results54, go_sem, d0, d1]) rfl (HLST.out w6 R cr v hbe hR E2)
  ·go_enter Tryz.func54, Tryz.ntmps54; go_upto_region 1 with (fail); rw [HW.out]; go_upto_region 3 with (fail); go_wp2_with (fail); refine HC.out.mono ?_; rintro e W1 ⟨rfl, hdr⟩; have hbe : Below W.heap.size W W1.drew := hdr.below.drew; have hbe1 := hdr.below; clear hdr a0 a1 b0 b1 d0 d1 d2 d3; obtain ⟨a0, a1, _, _⟩ := (HB0.out.keep hbe1 HB0.out.lt).two; obtain ⟨b0, b1, _, _⟩ := (HB1.out.keep hbe1 HB1.out.lt).two; obtain ⟨d0, d1, d2, d3⟩ := (HB2.out.keep hbe1 HB2.out.lt).two; go_upto_region 5 with (fail)
   go_region_held3 (fun w' => w'.cell? ⟨w.heap.size, 0, none⟩ = some (.bool true) ∧ w'.cell? ⟨w.heap.size, 1, none⟩ = some (.slice X na cx) ∧ w'.cell? ⟨w.heap.size + 1, 0, none⟩ = some (.bool false) ∧ w'.cell? ⟨w.heap.size + 1, 1, none⟩ = some (.slice Y nb cy))
     (first | exact ⟨keep_cell hbe a0, keep_cell hbe a1, keep_cell hbe b0, keep_cell hbe b1⟩ | exact ⟨keep_cell hbe z0, keep_cell hbe z1, keep_cell hbe y0, keep_cell hbe y1⟩ | go_keep | (dsimp only; refine ⟨?_, ?_, ?_, ?_⟩ <;> go_keep) | (refine ⟨?_, ?_, ?_, ?_⟩ <;> (rw [World.cell?_setCell_ne, World.cell?_setCell_ne] <;> first | exact keep_cell hbe z0 | exact keep_cell hbe z1 | exact keep_cell hbe y0 | exact keep_cell hbe y1 | (simp; omega) | simp)))
     (first
       | (go_at_call 78; with_reducible refine Calls.mono (HF.out _ (by assumption)) ?_; rintro e w5 ⟨R, cr, rfl, hR, hb5⟩
          have hbe := below_all hbe hb5)
       | (go_at_call 72; with_reducible refine Calls.mono (HM.out _ _ _) ?_; rintro e w6 ⟨rfl, hb6⟩
          have hR := hR.keep hb6; have hbe := below_all hbe hb6; have E2 := HB2.out.keep hbe hl2
          obtain ⟨d0, d1, d2, d3⟩ := E2.two))
   all_goals
     go_wp2; exact bodyPost_ret (v := .agg #[.bool v, .slice R nm cr]) (by simp [results, Tryz.results54, go_sem, d0, d1]) rfl (HLST.out w6 R cr v hbe hR E2)
theorem iadd_any (x y : Int) (X Y : Option Addr) (cx cy : Nat) (w : World) (hX : NW w X cx x.natAbs) (hY : NW w Y cy y.natAbs) (ha : (dg x.natAbs).length ≤ 400000) (hb : (dg y.natAbs).length ≤ 400000) (hr : (dg (x.natAbs + y.natAbs)).length ≤ 1000000) :
    Calls Tryz.prog 54 #[.agg #[.bool (decide (x < 0)), .slice X (dg x.natAbs).length cx], .agg #[.bool (decide (y < 0)), .slice Y (dg y.natAbs).length cy]] w (RetZ (x + y) w) := by
  by_cases hs : (decide (x < 0)) = (decide (y < 0))
  ·have h := nAdd_same (decide (x < 0)) X Y cx cy x.natAbs y.natAbs w hX hY ha hb hr; rw [hs] at h ⊢
   refine h.mono fun _ _ h => retSg_int h ?_ ?_
   ·have := decide_eq_decide.1 hs; omega
   ·have hi := decide_eq_decide.1 hs
    by_cases hy : y < 0
    ·have hx : x < 0 := hi.2 hy
     have h0 : x.natAbs + y.natAbs ≠ 0 := by omega
     rw [dT (dg_len_pos.2 h0), dT hy, dT (show x + y < 0 by omega)]; rfl
    ·have hx : ¬ x < 0 := fun h => hy (hi.1 h)
     rw [dF hy, dF (show ¬ x + y < 0 by omega)]; rfl
  ·have hpq : ((decide (x < 0)) == (decide (y < 0))) = false := beq_eq_false_iff_ne.2 hs
   rcases Nat.lt_or_ge x.natAbs y.natAbs with hlt | hge
   ·have h := nAdd_lt (decide (x < 0)) (decide (y < 0)) hpq X Y cx cy x.natAbs y.natAbs w hX hY hlt ha hb (Nat.le_trans (Go.Bw.dg_len_mono (by omega)) hr)
    refine h.mono fun _ _ h => retSg_int h ?_ ?_
    ·by_cases hx : x < 0 <;> by_cases hy : y < 0 <;> simp [hx, hy] at hs <;> omega
    ·have h0 : y.natAbs - x.natAbs ≠ 0 := by omega
     rw [dT (dg_len_pos.2 h0), Bool.and_true]; apply decide_eq_decide.2
     by_cases hx : x < 0 <;> by_cases hy : y < 0 <;> simp [hx, hy] at hs ⊢ <;> omega
   ·have h := nAdd_ge (decide (x < 0)) (decide (y < 0)) hpq X Y cx cy x.natAbs y.natAbs w hX hY hge ha hb (Nat.le_trans (Go.Bw.dg_len_mono (by omega)) hr)
    refine h.mono fun _ _ h => retSg_int h ?_ ?_
    ·by_cases hx : x < 0 <;> by_cases hy : y < 0 <;> simp [hx, hy] at hs <;> omega
    ·by_cases h0 : x.natAbs - y.natAbs = 0
     ·rw [h0, dg_zero]
      have : ¬ x + y < 0 := by
       by_cases hx : x < 0 <;> by_cases hy : y < 0 <;> simp [hx, hy] at hs <;> omega
      rw [dF this]; simp
     ·rw [dT (dg_len_pos.2 h0), Bool.and_true]; apply decide_eq_decide.2
      by_cases hx : x < 0 <;> by_cases hy : y < 0 <;> simp [hx, hy] at hs ⊢ <;> omega
end
end Go.Proofs.Tg.Iw
