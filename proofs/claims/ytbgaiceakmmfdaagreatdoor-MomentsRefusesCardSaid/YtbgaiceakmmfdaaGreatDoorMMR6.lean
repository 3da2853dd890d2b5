/- Parts of the proof: BN17, BN22, BN19, BN23, BN24, BN4, BN7. -/
import Derived.Deep.Cut
import Derived.Deep.RegionHeld3
import Derived.Test.YtbgaiceakmmfdaaGreatDoorMMR0
import Derived.Test.YtbgaiceakmmfdaaGreatDoorMMR1
import Derived.Test.YtbgaiceakmmfdaaGreatDoorMMR3
import Derived.Test.YtbgaiceakmmfdaaGreatDoorMMR5
set_option maxHeartbeats 64000000
set_option maxRecDepth 100000
namespace Go.Proofs.Tg
section
open Go.RowKit Go.Gr Go.Bn
theorem dg_len_mono {a b : Nat} (h : a ≤ b) : (dg a).length ≤ (dg b).length := by
 rcases Nat.lt_or_ge (dg b).length (dg a).length with h1 | h1
 ·exact absurd (dg_lt_of_len h1) (by omega)
 ·exact h1
def DvOk (b : Nat) : Prop := (dg b).length ≤ 200000
theorem DvOk.mono {a b : Nat} (h : DvOk b) (hab : a ≤ b) : DvOk a := Nat.le_trans (dg_len_mono hab) h
theorem dm_any (X Y : Option Addr) (cx cy a b : Nat) (w : World) (hX : ND w X cx a) (hY : ND w Y cy b) (hb0 : b ≠ 0) (_ : DvOk b) (hn : (dg a).length ≤ 200000) :
    Calls Tryz.prog 80 #[.slice X (dg a).length cx, .slice Y (dg b).length cy] w (RetDM (a / b) (a % b) w) := by
  rcases Nat.lt_or_ge a b with h | h
  ·have := div_less X Y cx cy a b w hX hY h (by omega)
   rwa [Nat.div_eq_of_lt h, Nat.mod_eq_of_lt h]
  ·rcases Nat.lt_or_ge (dg b).length 2 with h2 | h2
   ·have hb : b < B := by
     rcases Nat.lt_or_ge b B with h3 | h3
     ·exact h3
     ·have := dg_len_mono h3
      have h4 : (dg B).length = 2 := by decide +kernel
      omega
    exact div_digit X Y cx cy a b w hX hY h hb0 hb (by omega)
   ·exact div_long X Y cx cy a b w hX hY h h2 hn
end
end Go.Proofs.Tg
section
namespace Go.Proofs.Tg
open Go.RowKit Go.Gr Go.Bn
theorem digs_det {w : World} {A : Option Addr} {xs ys : List Nat} (h : Digs w A xs) (g : Digs w A ys) (hl : xs.length = ys.length) : xs = ys := by
 apply List.ext_getElem hl
 intro k h1 h2
 obtain ⟨ad, rfl, c1⟩ := h.at h1
 obtain ⟨ad2, e2, c2⟩ := g.at h2
 injection e2 with e2
 subst e2
 rw [c1] at c2
 injection c2 with c2
 injection c2 with _ c2
 omega
open Classical in
noncomputable def nmes (s : Value) (w : World) : Nat := if h : ∃ y, ∃ (Y : Option Addr) (c : Nat), s = .slice Y (dg y).length c ∧ Digs w Y (dg y) then h.choose else 0
theorem nmes_eq {w : World} {Y : Option Addr} {y c : Nat} (h : Digs w Y (dg y)) : nmes (.slice Y (dg y).length c) w = y := by
 have hex : ∃ y', ∃ (Y' : Option Addr) (c' : Nat), (Value.slice Y (dg y).length c) = .slice Y' (dg y').length c' ∧ Digs w Y' (dg y') := ⟨y, Y, c, rfl, h⟩
 unfold nmes
 rw [dif_pos hex]
 obtain ⟨Y', c', e, hd⟩ := hex.choose_spec
 injection e with e1 e2 _
 subst e1
 have := digs_det h hd e2
 rw [← val_dg hex.choose, ← this, val_dg]
def RetGc (g : Nat) (w : World) (e : Ending) (w' : World) : Prop :=
  ∃ G cg, e = .returned (.agg #[.bool false, .slice G (dg g).length cg]) ∧ ND w' G cg g ∧ Below w.heap.size w w'
theorem gcd_num (p q : Bool) (A B : Option Addr) (c d a b : Nat) (w : World) (hA : ND w A c a) (hB : ND w B d b) (ha : (dg a).length ≤ 200000) (hb : DvOk b) (hbl : (dg b).length ≤ 200000) :
    Calls Tryz.prog 60 #[.agg #[.bool p, .slice A (dg a).length c], .agg #[.bool q, .slice B (dg b).length d]] w (RetGc (Nat.gcd a b) w) := by
  obtain ⟨g, hg⟩ := eqx (Nat.gcd a b); rw [hg]; have HG := zh ((Nat.gcd_comm b a).trans hg); obtain ⟨na, hna⟩ := eqx ((dg a).length); obtain ⟨nb, hnb⟩ := eqx ((dg b).length); rw [hna, hnb]; have HNA := zh hna; have HNB := zh hnb; have HDB := zh hb
  have hal : na ≤ 200000 := by omega
  have hbl' : nb ≤ 200000 := by omega
  clear hg hna hnb hb ha hbl; obtain ⟨W, hW⟩ := eqx (((w.alloc (.cells #[.bool p, .slice A na c] 52)).alloc (.cells #[.bool q, .slice B nb d] 52)).alloc (.cells #[.bool false, .slice none 0 0] 52))
  have B0 : Blk W w.heap.size 52 #[.bool p, .slice A na c] := by rw [← hW]; exact ((Blk.new _ _ _).alloc _).alloc _
  have B1 : Blk W (w.heap.size + 1) 52 #[.bool q, .slice B nb d] := by
   rw [← hW]; have := (Blk.new (w.alloc (.cells #[.bool p, .slice A na c] 52)) 52 #[.bool q, .slice B nb d]).alloc (.cells #[.bool false, .slice none 0 0] 52); simpa using this
  have B2 : Blk W (w.heap.size + 1 + 1) 52 #[.bool false, .slice none 0 0] := by
   rw [← hW]; have := (Blk.new ((w.alloc (.cells #[.bool p, .slice A na c] 52)).alloc (.cells #[.bool q, .slice B nb d] 52)) 52 #[.bool false, .slice none 0 0]); simpa using this
  have hbW : Below w.heap.size w W := by rw [← hW]; exact ((bal).alloc (by simp) _).alloc (by simp; omega) _
  have hWs : W.heap.size = w.heap.size + 3 := by rw [← hW]; simp
  have HX : Hid (ND W A c a) := zh (hA.keep hbW); have HY : Hid (ND W B d b) := zh (hB.keep hbW); obtain ⟨a0, a1, _, _⟩ := B0.two; obtain ⟨b0, b1, _, _⟩ := B1.two; go_enter Tryz.func60, Tryz.ntmps60; go_upto_region 1 with (fail); clear hW hA hB
  go_quiet (fail)
  go_wp2
  go_loopw [5, 6] (fun s5 s6 wr => ∃ (x y nx ny : Nat) (X : Option Addr) (cx : Nat) (Y : Option Addr) (cy : Nat), s5 = .slice X nx cx ∧ s6 = .slice Y ny cy ∧ nx ≤ 200000 ∧ ny ≤ 200000 ∧ Hid (DvOk y) ∧ Hid (nx = (dg x).length) ∧ Hid (ny = (dg y).length) ∧ Hid (ND wr X cx x) ∧ Hid (ND wr Y cy y) ∧ Hid (Nat.gcd y x = g) ∧ Below W.heap.size W wr) (fun _ s6 wr => nmes s6 wr)
  case atStart => exact ⟨a, b, na, nb, A, c, B, d, rfl, rfl, hal, hbl', HDB, zh HNA.out.symm, zh HNB.out.symm, zh (HX.out.keep (below_drewN brf _)), zh (HY.out.keep (below_drewN brf _)), HG, below_drewN brf _⟩
  case round =>
   obtain ⟨wo, rfl⟩ : ∃ wo : World, wo = wr := ⟨_, rfl⟩; obtain ⟨x, y, nx, ny, X, cx, Y, cy, rfl, rfl, hnx, hny, HDV, HNX, HNY, HXD, HYD, HGG, hbr⟩ := hrel
   by_cases hy0 : y = 0
   ·subst hy0
    obtain rfl : ny = 0 := by have := HNY.out; rwa [dg_zero] at this
    obtain rfl : x = g := by have := HGG.out; rwa [Nat.gcd_zero_left] at this
    have K2 := B2.keep hbr (by omega); obtain ⟨k0, k1, k2, k3⟩ := K2.two; have HM := zh (make1_any false X nx cx wo false rfl (by omega)); have HBR := zh hbr
    go_wp2_with (go_at_call 32; refine HM.out.mono ?_; rintro e w2 ⟨rfl, hb2⟩
                 have K3 := K2.keep hb2 K2.lt
                 obtain ⟨j0, j1, j2, j3⟩ := K3.two)
    have hlt3 := K3.lt; refine bodyPost_ret (v := .agg #[.bool false, .slice X nx cx]) (by simp [results, Tryz.results60, go_sem, j0, j1]) rfl ⟨X, cx, by rw [HNX.out], ⟨?_, HXD.out.cap, HXD.out.nilc⟩, ?_⟩
    ·have h1 := HXD.out.digs.keep hb2; have h4 := Digs.put h1 j0 (by simp [vd]) (.bool false); exact Digs.put h4 (v := .slice none 0 0) (by rw [World.cell?_setCell_other _ _ _ _ (by simp)]; exact j1) (by simp [vd]) _
    ·have h1 := below_all (below_all hbW hbr) hb2; exact (h1.setCell (by simp; omega) _).setCell (by simp; omega) _
   ·have hny0 : 0 < ny := by
     rw [HNY.out, dg_pos hy0]; simp
    have hnyI : decide ((0 : Int) < (ny : Int)) = true := dT (by omega); have hnyN : decide (0 < ny) = true := dT hny0; have HD := zh (dm_any X Y cx cy x y wo HXD.out HYD.out hy0 HDV.out (by rw [← HNX.out]; exact hnx)); rw [← HNX.out, ← HNY.out] at HD; unfold RetDM at HD; have hml : x % y < y := Nat.mod_lt _ (by omega); have HN : Hid (Nat.gcd (x % y) y = g) := zh (by rw [← Nat.gcd_rec]; exact HGG.out); have HDR : Hid (DvOk (x % y)) := zh (HDV.out.mono (by omega)); have HLR : Hid ((dg (x % y)).length ≤ 200000) := zh (Nat.le_trans (dg_len_mono (Nat.le_of_lt hml)) (by rw [← HNY.out]; exact hny)); have HM := zh (nmes_eq (c := cy) HYD.out.digs); rw [← HNY.out] at HM; generalize x % y = r at *; generalize x / y = qq at *; have HML := zh hml; clear hy0 hml
    go_wp2_with (go_at_call 80; refine HD.out.mono ?_; rintro e w2 ⟨Q, cq, R, cr, rfl, hQ, hR, hb2⟩)
    go_roundw
    case rel => exact ⟨y, r, ny, _, Y, cy, R, cr, rfl, rfl, hny, HLR.out, HDR, HNY, zh rfl, zh (HYD.out.keep hb2), zh hR, HN, below_all hbr hb2⟩
    case measure =>
     have h1 := HM.out; have h2 := nmes_eq (c := cr) hR.digs; have h3 := HML.out; simp at h1 h2 ⊢; omega
end Go.Proofs.Tg
end
namespace Go.Proofs.Tg
section
open Go.RowKit Go.Gr Go.Bn
theorem dg_len_pos {u : Nat} : 0 < (dg u).length ↔ u ≠ 0 := by
 by_cases h : u = 0
 ·subst h; rw [dg_zero]; simp
 ·rw [dg_pos h]; simp [h]
theorem ND.far {w : World} {A : Option Addr} {c n g : Nat} {t : TypeId} {cs : Array Value} (h : ND w A c n) (B : Blk w g t cs) (hne : t ≠ 103) (i : Nat) (u : Value) : ND (w.setCell ⟨g, i, none⟩ u) A c n := ⟨h.digs.far (h.digs.off_ty B hne) i u, h.cap, h.nilc⟩
theorem dg_sgn (b : Bool) (v : Nat) : (b && decide (0 < (dg v).length)) = (b && decide (v ≠ 0)) := by
 by_cases h : v = 0
 ·subst h; rw [dg_zero]; simp
 ·have := dg_len_pos.2 h
  simp [h, this]
def RetQn (p q : Bool) (a b : Nat) (w : World) (e : Ending) (w' : World) : Prop :=
  ∃ Q cq R cr, e = .returned (.tuple #[.agg #[.bool ((p != q) && decide (a / b ≠ 0)), .slice Q (dg (a / b)).length cq], .agg #[.bool (p && decide (a % b ≠ 0)), .slice R (dg (a % b)).length cr]]) ∧ ND w' Q cq (a / b) ∧ ND w' R cr (a % b) ∧ Below w.heap.size w w'
theorem quorem_num (p q : Bool) (A B : Option Addr) (c d a b : Nat) (w : World) (hA : ND w A c a) (hB : ND w B d b) (ha : (dg a).length ≤ 200000) (hb : b ≠ 0) (hd : DvOk b) :
    Calls Tryz.prog 62 #[.agg #[.bool p, .slice A (dg a).length c], .agg #[.bool q, .slice B (dg b).length d]] w (RetQn p q a b w) := by
  obtain ⟨na, hna⟩ := eqx ((dg a).length); obtain ⟨nb, hnb⟩ := eqx ((dg b).length)
  have HD : Hid (∀ W, Below w.heap.size w W → Calls Tryz.prog 80 #[.slice A na c, .slice B nb d] W (RetDM (a / b) (a % b) W)) := zh (fun W h => by
   rw [← hna, ← hnb]; exact dm_any A B c d a b W (hA.keep h) (hB.keep h) hb hd ha)
  rw [hna, hnb]; unfold RetDM at HD; unfold RetQn
  have hqs := fun bb => dg_sgn bb (a / b)
  have hrs := dg_sgn p (a % b); obtain ⟨s1, hs1⟩ := eqx (((p != q) && decide (a / b ≠ 0))); rw [hs1]; rw [← hqs] at hs1; have l1 : (dg (a / b)).length ≤ 200000 := Nat.le_trans (dg_len_mono (Nat.div_le_self _ _)) ha; have l2 : (dg (a % b)).length ≤ 200000 := Nat.le_trans (dg_len_mono (Nat.mod_le _ _)) ha; rw [← hrs]; clear hrs; generalize a / b = qq at *; generalize a % b = rr at *; have HM1 : Hid (∀ W Q cq, Calls Tryz.prog 32 #[.bool (p != q), .slice Q (dg qq).length cq] W fun e w' => e = .returned (.agg #[.bool s1, .slice Q (dg qq).length cq]) ∧ Below W.heap.size W w') := zh (fun W Q cq => make1_any (p != q) Q (dg qq).length cq W s1 hs1 (by omega)); obtain ⟨s2, hs2⟩ := eqx ((p && decide (0 < (dg rr).length))); rw [hs2]
  have HM2 : Hid (∀ W R cr, Calls Tryz.prog 32 #[.bool p, .slice R (dg rr).length cr] W fun e w' => e = .returned (.agg #[.bool s2, .slice R (dg rr).length cr]) ∧ Below W.heap.size W w') := zh (fun W Q cq => make1_any p Q (dg rr).length cq W s2 hs2 (by omega)); obtain ⟨n1, hn1⟩ := eqx ((dg qq).length); obtain ⟨n2, hn2⟩ := eqx ((dg rr).length); rw [hn1, hn2] at HD; rw [hn1] at HM1; rw [hn2] at HM2; rw [hn1, hn2]; clear hqs hs1 hs2 hna hnb hn1 hn2 hA hB hd l1 l2 ha hb; obtain ⟨W, hW⟩ := eqx ((((w.alloc (.cells #[.bool p, .slice A na c] 52)).alloc (.cells #[.bool q, .slice B nb d] 52)).alloc (.cells #[.bool false, .slice none 0 0] 52)).alloc (.cells #[.bool false, .slice none 0 0] 52))
  have B0 : Blk W w.heap.size 52 #[.bool p, .slice A na c] := by rw [← hW]; exact (((Blk.new _ _ _).alloc _).alloc _).alloc _
  have B1 : Blk W (w.heap.size + 1) 52 #[.bool q, .slice B nb d] := by
   rw [← hW]; have := ((Blk.new (w.alloc (.cells #[.bool p, .slice A na c] 52)) 52 #[.bool q, .slice B nb d]).alloc (.cells #[.bool false, .slice none 0 0] 52)).alloc (.cells #[.bool false, .slice none 0 0] 52); simpa using this
  have B2 : Blk W (w.heap.size + 1 + 1) 52 #[.bool false, .slice none 0 0] := by
   rw [← hW]; have := (Blk.new ((w.alloc (.cells #[.bool p, .slice A na c] 52)).alloc (.cells #[.bool q, .slice B nb d] 52)) 52 #[.bool false, .slice none 0 0]).alloc (.cells #[.bool false, .slice none 0 0] 52); simpa using this
  have B3 : Blk W (w.heap.size + 1 + 1 + 1) 52 #[.bool false, .slice none 0 0] := by
   rw [← hW]; have := (Blk.new (((w.alloc (.cells #[.bool p, .slice A na c] 52)).alloc (.cells #[.bool q, .slice B nb d] 52)).alloc (.cells #[.bool false, .slice none 0 0] 52)) 52 #[.bool false, .slice none 0 0]); simpa using this
  have hbW : Below w.heap.size w W := by rw [← hW]; exact (((bal).alloc (by simp) _).alloc (by simp; omega) _).alloc (by simp; omega) _
  have hWs : W.heap.size = w.heap.size + 4 := by rw [← hW]; simp
  obtain ⟨a0, a1, _, _⟩ := B0.two; obtain ⟨b0, b1, _, _⟩ := B1.two; go_enter Tryz.func62, Tryz.ntmps62; go_upto_region 1 with (fail); clear hW
  go_upto_region 2 with (go_at_call 80; refine (HD.out _ hbW).mono ?_; rintro e w2 ⟨Q, cq, R, cr, rfl, hQ, hR, hb2⟩)
  have C0 := B0.keep hb2 B0.lt; have C1 := B1.keep hb2 B1.lt; have C2 := B2.keep hb2 B2.lt; have C3 := B3.keep hb2 B3.lt; have hbe : Below w2.heap.size w2 w2.drew := brf.drew; have HM1' : Hid (∀ V, Below w2.heap.size w2 V → Calls Tryz.prog 32 #[.bool (!(p == q)), .slice Q n1 cq] V fun e w' => e = .returned (.agg #[.bool s1, .slice Q n1 cq]) ∧ Below w2.heap.size w2 w') := zh (fun V h => (HM1.out V Q cq).mono fun e w' ⟨x, y⟩ => ⟨x, below_all h y⟩); have HM2' : Hid (∀ V, Below w2.heap.size w2 V → Calls Tryz.prog 32 #[.bool p, .slice R n2 cr] V fun e w' => e = .returned (.agg #[.bool s2, .slice R n2 cr]) ∧ Below w2.heap.size w2 w') := zh (fun V h => (HM2.out V R cr).mono fun e w' ⟨x, y⟩ => ⟨x, below_all h y⟩); have hbw2 := below_all hbW hb2; have HC2 := zh C2; have HC3 := zh C3; obtain ⟨e0, e1, _, _⟩ := C0.two; obtain ⟨g0, g1, _, _⟩ := C1.two; obtain ⟨i0, i1, i2, i3⟩ := C2.two
  obtain ⟨k0, k1, k2, k3⟩ := C3.two; clear HM1 HM2 HD B0 B1 B2 B3 a0 a1 b0 b1 hb2 C2 C3; have HC0 := zh C0; have HC1 := zh C1; clear C0 C1
  go_region_with
    (first
      | (go_at_call 32; with_reducible refine (HM1'.out _ (by assumption)).mono ?_; rintro e w' ⟨rfl, hbe⟩; have D0 := HC0.out.keep hbe HC0.out.lt; have D1 := HC1.out.keep hbe HC1.out.lt; obtain ⟨e0, e1, _, _⟩ := D0.two; obtain ⟨g0, g1, _, _⟩ := D1.two; have D2 := HC2.out.keep hbe HC2.out.lt; have D3 := HC3.out.keep hbe HC3.out.lt; obtain ⟨i0, i1, i2, i3⟩ := D2.two; obtain ⟨k0, k1, k2, k3⟩ := D3.two)
      | (go_at_call 32; with_reducible refine (HM2'.out _ (by assumption)).mono ?_; rintro e w' ⟨rfl, hbe⟩; have D0 := HC0.out.keep hbe HC0.out.lt; have D1 := HC1.out.keep hbe HC1.out.lt; obtain ⟨e0, e1, _, _⟩ := D0.two; obtain ⟨g0, g1, _, _⟩ := D1.two; have D2 := HC2.out.keep hbe HC2.out.lt; have D3 := HC3.out.keep hbe HC3.out.lt; obtain ⟨i0, i1, i2, i3⟩ := D2.two; obtain ⟨k0, k1, k2, k3⟩ := D3.two))
  all_goals
    go_wp2; have hQ' : ND w' Q cq qq := hQ.keep hbe; have hR' : ND w' R cr rr := hR.keep hbe; refine bodyPost_ret (v := .tuple #[.agg #[.bool s1, .slice Q n1 cq], .agg #[.bool s2, .slice R n2 cr]]) (by simp [results, Tryz.results62, go_sem, i0, i1, k0, k1]) rfl ⟨Q, cq, R, cr, rfl, ?_, ?_, ?_⟩
    ·exact (((hQ'.far D2 (by decide) _ _).far (D2.set _ _) (by decide) _ _).far ((D3.far (by simp) _).far (by simp) _) (by decide) _ _).far (((D3.far (by simp) _).far (by simp) _).set _ _) (by decide) _ _
    ·exact (((hR'.far D2 (by decide) _ _).far (D2.set _ _) (by decide) _ _).far ((D3.far (by simp) _).far (by simp) _) (by decide) _ _).far (((D3.far (by simp) _).far (by simp) _).set _ _) (by decide) _ _
    ·exact below_far (below_far (below_far (below_far (below_all hbw2 hbe) (by omega) _ _) (by omega) _ _) (by omega) _ _) (by omega) _ _
def dnz (x : Nat) : Nat := if x = 1 then 0 else x
theorem dnz_pos {x : Nat} (h : x ≠ 1) : dnz x = x := if_neg h
theorem dnz_one : dnz 1 = 0 := rfl
def RetFr (p : Bool) (n m : Nat) (w : World) (e : Ending) (w' : World) : Prop :=
  ∃ N cn D cd, e = .returned (.agg #[.bool p, .slice N (dg n).length cn, .bool false, .slice D (dg (dnz m)).length cd]) ∧ ND w' N cn n ∧ ND w' D cd (dnz m) ∧ Below w.heap.size w w'
structure FqSt (w : World) (p : Bool) (n m : Nat) (N : Option Addr) (cn : Nat) (D : Option Addr) (cd : Nat) (wx : World) : Prop where
  below : Below w.heap.size w wx
  b0 : Blk wx w.heap.size 52 #[.bool p, .slice N (dg n).length cn]
  b1 : Blk wx (w.heap.size + 1) 52 #[.bool false, .slice D (dg m).length cd]
  b2 : Blk wx (w.heap.size + 1 + 1) 54 #[.bool false, .slice none 0 0, .bool false, .slice none 0 0]
  dn : ND wx N cn n
  dd : ND wx D cd m
theorem addswap (X Y : Option Addr) (cx cy : Nat) (us vs : List Nat) (w : World) (hX : Digs w X us) (hY : Digs w Y vs) (hu : Dig us) (hv : Dig vs) (hl1 : vs.length < us.length) (hn : us.length ≤ 400000) :
    Calls Tryz.prog 56 #[.slice Y vs.length cy, .slice X us.length cx] w (RetDg (val us + val vs) w) := by
  have hl : vs.length ≤ us.length := by omega
  have hd : decide ((vs.length : Int) < (us.length : Int)) = true := dT (by omega); have hd' : decide (vs.length < us.length) = true := dT hl1; clear hl1; have HU := zh hu; have HV := zh hv; have HX := zh hX; have HY := zh hY
  have hmk := fun W => make_digs (us.length + 1) (by omega) W
  have hc1 : ((us.length + 1 : Nat) : Int) = (us.length : Int) + 1 := by omega
  rw [hc1] at hmk; clear hc1; clear hu hv hX hY; go_enter Tryz.func56, Tryz.ntmps56; go_upto_region 4 with (fail); obtain ⟨W, hW⟩ := eqx (w.alloc (.cells (madeCells #[.int .u32 0] (us.length + 1)) 103))
  have G5 : Blk W w.heap.size 103 (darr ([] ++ List.replicate (us.length + 1 - 0) 0)) := by
   rw [← hW, List.nil_append, Nat.sub_zero, ← darr_made]; exact Blk.new _ _ _
  have hbW : Below w.heap.size w W := by rw [← hW]; exact bal
  rw [hW]; clear hW hmk; go_wp2
  go_loopw [6, 7] (fun s6 s7 wr => ∃ (k cr : Nat) (zs : List Nat), s6 = .int .u64 cr ∧ s7 = .int .i64 k ∧ k ≤ us.length ∧ Hid (AddSt us vs w.heap.size w wr k cr zs)) (fun _ s7 _ => us.length - (intOf s7).toNat)
  case atStart => exact ⟨0, 0, [], rfl, rfl, Nat.zero_le _, zh (AddSt.mk rfl (fun x hx => absurd hx (by simp)) (by omega) (by simp [val]) G5 hbW)⟩
  case round =>
   clear G5 hbW; obtain ⟨wo, rfl⟩ : ∃ wo : World, wo = wr := ⟨_, rfl⟩; obtain ⟨k, cr, zs, rfl, rfl, hk, HST⟩ := hrel; have hcr := HST.out.le1
   by_cases hku : k < us.length
   ·obtain ⟨ad, rfl, hcx⟩ := Digs.at (HX.out.keep HST.out.below) hku; have hxB : us[k] < 4294967296 := HU.out us[k] (List.getElem_mem _); have HTX := zh (val_take_succ hku); generalize us[k] = x at *
    have q0 : (0 : Int) ≤ (k : Int) := by omega
    have q1 : (k : Int) < (us.length : Int) := by omega
    have q1' : (k : Int) < (us.length : Int) + 1 := by omega
    have q3 : ((k : Int)).toNat = k := by omega
    have w1 : IntKind.u64.wrap ((cr : Int) + (x : Int)) = ((cr + x : Nat) : Int) := by have := wrap_nat (cr + x) (by omega); simpa using this
    have c0 := HST.out.blk.cell k; have f0 := HST.out.blk.frozen k
    have hzl : (zs ++ List.replicate (us.length + 1 - k) 0).length = us.length + 1 := by rw [List.length_append, List.length_replicate, HST.out.len]; omega
    rw [darr_at _ (by rw [hzl]; omega)] at c0; generalize (zs ++ List.replicate (us.length + 1 - k) 0)[k]'(by rw [hzl]; omega) = old at c0
    by_cases hkv : k < vs.length
    ·obtain ⟨bd, rfl, hcy⟩ := Digs.at (HY.out.keep HST.out.below) hkv; have hyB : vs[k] < 4294967296 := HV.out vs[k] (List.getElem_mem _); have HTY := zh (val_take_succ hkv); generalize vs[k] = y at *
     have q2 : (k : Int) < (vs.length : Int) := by omega
     have d1 : decide ((k : Int) < (vs.length : Int)) = true := dT q2; have d1' : decide (k < vs.length) = true := dT hkv
     have w2 : IntKind.u64.wrap (((cr + x : Nat) : Int) + (y : Int)) = ((cr + x + y : Nat) : Int) := by have := wrap_nat (cr + x + y) (by omega); simpa using this
     go_wp2; go_roundw
     case rel =>
      have hs := HST.out.step hku (Nat.le_refl _) hxB hyB HTX.out HTY.out
      have e : (((cr + x + y) % B : Nat) : Int) = ((cr : Int) + (x : Int) + (y : Int)) % 4294967296 := by simp only [B]; omega
      rw [e] at hs; exact ⟨k + 1, (cr + x + y) / B, _, by simp only [B]; congr 1, by go_num, by omega, zh hs⟩
     case measure => simp [intOf]; omega
    ·have d1 : decide ((k : Int) < (vs.length : Int)) = false := dF (by omega); have d1' : decide (k < vs.length) = false := dF hkv; have HTY : Hid (val (vs.take (k + 1)) = val (vs.take k) + B ^ k * 0) := zh (by rw [val_take_all (by omega), val_take_all (by omega)]; omega); go_wp2; go_roundw
     case rel =>
      have hs := HST.out.step hku (Nat.le_refl _) hxB (y := 0) (by decide) HTX.out HTY.out
      have e : (((cr + x + 0) % B : Nat) : Int) = ((cr : Int) + (x : Int)) % 4294967296 := by simp only [B]; omega
      rw [e] at hs; exact ⟨k + 1, (cr + x + 0) / B, _, by simp only [B]; congr 1, by go_num, by omega, zh hs⟩
     case measure => simp [intOf]; omega
   ·obtain rfl : k = us.length := by omega
    have dd : decide (us.length < us.length) = false := by simp
    have hz1 : us.length + 1 - us.length = 1 := by omega
    have hb1 := HST.out.blk; rw [hz1] at hb1; have c0 := hb1.cell us.length; have f0 := hb1.frozen us.length
    have hzl : (zs ++ List.replicate 1 0).length = us.length + 1 := by rw [List.length_append, List.length_replicate, HST.out.len]
    rw [darr_at _ (by rw [hzl]; omega)] at c0; generalize (zs ++ List.replicate 1 0)[us.length]'(by rw [hzl]; omega) = old at c0; have hsum := HST.out.sum; rw [List.take_length, val_take_all hl] at hsum
    have q1' : (us.length : Int) < (us.length : Int) + 1 := by omega
    have hcm : (cr : Int) % 4294967296 = (cr : Int) := by omega
    have hB2 : Blk (wo.setCell ⟨w.heap.size, us.length, none⟩ (.int .u32 (cr : Nat))) w.heap.size 103 (darr (zs ++ [cr])) := by
     have := hb1.set us.length (.int .u32 (cr : Nat))
     rwa [darr_set, show zs ++ List.replicate 1 0 = zs ++ [0] from rfl, List.set_append_right _ _ (by rw [HST.out.len]; exact Nat.le_refl _), HST.out.len, Nat.sub_self, List.set_cons_zero] at this
    have hdig : Dig (zs ++ [cr]) := fun z hz => by
     rcases List.mem_append.1 hz with hz | hz
     ·exact HST.out.dig z hz
     ·rw [List.mem_singleton.1 hz]; simp only [B]; omega
    have hlen : (zs ++ [cr]).length = us.length + 1 := by rw [List.length_append, HST.out.len]; rfl
    have HT := zh (trim_dg (some ⟨w.heap.size, 0, none⟩) (us.length + 1) (zs ++ [cr]) _ (digs_of hB2) hdig (by omega) (by omega)); have HVL : Hid (val (zs ++ [cr]) = val us + val vs) := zh (by rw [val_app, HST.out.len]; simp only [val, Nat.mul_zero, Nat.add_zero]; exact hsum); have hdl := dg_val_len hdig; rw [hlen, HVL.out] at HT; rw [hlen, HVL.out] at hdl; clear hsum hzl hB2 hdig hlen hb1 hz1
    go_wp2_with (go_at_call 58; refine HT.out.mono ?_; rintro e w' ⟨rfl, rfl, hD⟩)
    go_ret; exact ⟨_, _, rfl, ND.some hD hdl, below_far HST.out.below (Nat.le_refl _) _ _⟩
theorem nadd_any (X Y : Option Addr) (cx cy a b : Nat) (w : World) (hX : Digs w X (dg a)) (hY : Digs w Y (dg b)) (ha : (dg a).length ≤ 400000) (hb : (dg b).length ≤ 400000) :
    Calls Tryz.prog 56 #[.slice X (dg a).length cx, .slice Y (dg b).length cy] w (RetDg (a + b) w) := by
  by_cases h : (dg b).length ≤ (dg a).length
  ·have := addloop X Y cx cy (dg a) (dg b) w hX hY (dg_dig a) (dg_dig b) h ha
   rwa [val_dg, val_dg] at this
  ·have := addswap Y X cy cx (dg b) (dg a) w hY hX (dg_dig b) (dg_dig a) (by omega) hb
   rwa [val_dg, val_dg, Nat.add_comm b a] at this
theorem val_set : ∀ (l : List Nat) (j : Nat) (h : j < l.length) (s : Nat), val (l.set j s) + B ^ j * l[j] = val l + B ^ j * s
  | x :: l, 0, _, s => by simp only [List.set_cons_zero, val, List.getElem_cons_zero, Nat.pow_zero, Nat.one_mul]; omega
  | x :: l, j + 1, h, s => by
    have ih := val_set l j (by simpa using h) s; simp only [List.set_cons_succ, val, List.getElem_cons_succ, Nat.pow_succ]
    have e : ∀ t, B ^ j * B * t = B * (B ^ j * t) := fun t => by rw [Nat.mul_comm (B ^ j) B, Nat.mul_assoc]
    rw [e, e, Nat.add_assoc, ← Nat.mul_add, ih, Nat.mul_add]; omega
structure MulSt (us vs : List Nat) (g : Nat) (w0 wr : World) (i : Nat) (zs : List Nat) : Prop where
  len : zs.length = i + vs.length
  dig : Dig zs
  sum : val zs = val (us.take i) * val vs
  blk : Blk wr g 103 (darr (zs ++ List.replicate (us.length - i) 0))
  below : Below w0.heap.size w0 wr
structure MulIn (us vs : List Nat) (g : Nat) (w0 wr : World) (i x k c : Nat) (zs : List Nat) : Prop where
  len : zs.length = i + vs.length
  dig : Dig zs
  car : c < B
  sum : val zs + B ^ (i + k) * c = val (us.take i) * val vs + B ^ i * (x * val (vs.take k))
  blk : Blk wr g 103 (darr (zs ++ List.replicate (us.length - i) 0))
  below : Below w0.heap.size w0 wr
theorem mul_bound {c x y o : Nat} (hc : c < B) (hx : x < B) (hy : y < B) (ho : o < B) : c + (x * y + o) < B * B := by
 have h : x * y ≤ (B - 1) * (B - 1) := Nat.mul_le_mul (by omega) (by omega)
 have e : (B - 1) * (B - 1) = B * B - 2 * B + 1 := by decide
 have e2 : 2 * B ≤ B * B := by decide
 omega
theorem MulIn.step {us vs : List Nat} {g : Nat} {w0 wo : World} {i x k c : Nat} {zs : List Nat} (h : MulIn us vs g w0 wo i x k c zs) (hk : k < vs.length) (hg : w0.heap.size ≤ g) {y o : Nat} (hx : x < B) (hy : y < B)
    (ho : zs[i + k]'(by rw [h.len]; omega) = o) (h2 : val (vs.take (k + 1)) = val (vs.take k) + B ^ k * y) :
    MulIn us vs g w0 (wo.setCell ⟨g, i + k, none⟩ (.int .u32 (((c + (x * y + o)) % B : Nat) : Int))) i x (k + 1) ((c + (x * y + o)) / B) (zs.set (i + k) ((c + (x * y + o)) % B)) := by
  have hl : i + k < zs.length := by rw [h.len]; omega
  have hoB : o < B := by rw [← ho]; exact h.dig _ (List.getElem_mem _)
  refine ⟨by rw [List.length_set, h.len], fun z hz => ?_, ?_, ?_, ?_, below_far h.below hg _ _⟩
  ·rcases List.mem_or_eq_of_mem_set hz with hz | rfl
   ·exact h.dig z hz
   ·exact Nat.mod_lt _ (by decide)
  ·rw [Nat.div_lt_iff_lt_mul (by decide)]; exact mul_bound h.car hx hy hoB
  ·have hv := val_set zs (i + k) hl ((c + (x * y + o)) % B); rw [ho] at hv; have hs := h.sum; have hm := Nat.mod_add_div (c + (x * y + o)) B
   have e1 : B ^ (i + (k + 1)) * ((c + (x * y + o)) / B) = B ^ (i + k) * (B * ((c + (x * y + o)) / B)) := by rw [← Nat.add_assoc, Nat.pow_succ, Nat.mul_assoc]
   have e2 : B ^ (i + k) * ((c + (x * y + o)) % B) + B ^ (i + k) * (B * ((c + (x * y + o)) / B)) = B ^ (i + k) * (c + (x * y + o)) := by rw [← Nat.mul_add, hm]
   have e3 : B ^ (i + k) * (c + (x * y + o)) = B ^ (i + k) * c + B ^ (i + k) * (x * y) + B ^ (i + k) * o := by rw [Nat.mul_add, Nat.mul_add, Nat.add_assoc]
   have e4 : B ^ i * (x * val (vs.take (k + 1))) = B ^ i * (x * val (vs.take k)) + B ^ (i + k) * (x * y) := by
    rw [h2, Nat.mul_add, Nat.mul_add, Nat.pow_add]
    congr 1
    rw [Nat.mul_assoc (B ^ i), Nat.mul_left_comm x]
   rw [e1, e4]; omega
  ·have := h.blk.set (i + k) (.int .u32 (((c + (x * y + o)) % B : Nat) : Int))
   rwa [darr_set, List.set_append_left _ _ hl] at this
theorem MulIn.drew {us vs : List Nat} {g : Nat} {w0 wo : World} {i x k c : Nat} {zs : List Nat} (h : MulIn us vs g w0 wo i x k c zs) : MulIn us vs g w0 wo.drew i x k c zs :=
  ⟨h.len, h.dig, h.car, h.sum, h.blk.drew, h.below.drew⟩
theorem MulSt.into {us vs : List Nat} {g : Nat} {w0 wo : World} {i : Nat} {zs : List Nat} (h : MulSt us vs g w0 wo i zs) (x : Nat) : MulIn us vs g w0 wo i x 0 0 zs :=
  ⟨h.len, h.dig, by decide, by simp [h.sum, val], h.blk, h.below⟩
theorem MulIn.out {us vs : List Nat} {g : Nat} {w0 wo : World} {i x c : Nat} {zs : List Nat} (h : MulIn us vs g w0 wo i x vs.length c zs) (hi : i < us.length) (hg : w0.heap.size ≤ g) (h1 : val (us.take (i + 1)) = val (us.take i) + B ^ i * x) :
    MulSt us vs g w0 (wo.setCell ⟨g, i + vs.length, none⟩ (.int .u32 (c : Nat))) (i + 1) (zs ++ [c]) := by
  refine ⟨by rw [List.length_append, h.len]; simp; omega, fun z hz => ?_, ?_, ?_, below_far h.below hg _ _⟩
  ·rcases List.mem_append.1 hz with hz | hz
   ·exact h.dig z hz
   ·rw [List.mem_singleton.1 hz]; exact h.car
  ·have hs := h.sum; rw [List.take_length] at hs; rw [val_app, h.len, h1, Nat.add_mul, Nat.mul_assoc, ← hs]; simp [val]
  ·have := h.blk.set (i + vs.length) (.int .u32 (c : Nat))
   rwa [darr_set, List.set_append_right _ _ (by rw [h.len]; exact Nat.le_refl _), h.len, Nat.sub_self, show us.length - i = (us.length - (i + 1)) + 1 by omega, List.replicate_succ, List.set_cons_zero, show zs ++ c :: List.replicate (us.length - (i + 1)) 0 = (zs ++ [c]) ++ List.replicate (us.length - (i + 1)) 0 by simp] at this
theorem mulloop (X Y : Option Addr) (cx cy : Nat) (us vs : List Nat) (w : World) (hX : Digs w X us) (hY : Digs w Y vs) (hu : Dig us) (hv : Dig vs) (hu0 : 0 < us.length) (hv0 : 0 < vs.length) (hn : us.length ≤ 200000) (hm : vs.length ≤ 200000) :
    Calls Tryz.prog 57 #[.slice X us.length cx, .slice Y vs.length cy] w (RetDg (val us * val vs) w) := by
  have HU := zh hu; have HV := zh hv; have HX := zh hX; have HY := zh hY
  have n1 : ¬ (us.length = 0) := by omega
  have n2 : ¬ (vs.length = 0) := by omega
  have n3 : ((us.length : Int) == 0) = false := beq_eq_false_iff_ne.2 (by omega); have n4 : ((vs.length : Int) == 0) = false := beq_eq_false_iff_ne.2 (by omega)
  have hmk := fun W => make_digs (us.length + vs.length) (by omega) W
  have hc1 : ((us.length + vs.length : Nat) : Int) = (us.length : Int) + (vs.length : Int) := by omega
  rw [hc1] at hmk; clear hc1; clear hu hv hX hY; go_enter Tryz.func57, Tryz.ntmps57; go_upto_region 4 with (fail); obtain ⟨W, hW⟩ := eqx (w.alloc (.cells (madeCells #[.int .u32 0] (us.length + vs.length)) 103))
  have G5 : Blk W w.heap.size 103 (darr (List.replicate vs.length 0 ++ List.replicate (us.length - 0) 0)) := by
   rw [← hW, List.replicate_append_replicate, Nat.sub_zero, Nat.add_comm, ← darr_made]; exact Blk.new _ _ _
  have hbW : Below w.heap.size w W := by rw [← hW]; exact bal
  rw [hW]; clear hW hmk; go_wp2
  go_loopw [6] (fun s6 wr => ∃ (i : Nat) (zs : List Nat), s6 = .int .i64 i ∧ i ≤ us.length ∧ Hid (MulSt us vs w.heap.size w wr i zs)) (fun s6 _ => us.length - (intOf s6).toNat)
  case atStart => exact ⟨0, _, rfl, Nat.zero_le _, zh (MulSt.mk (by simp) (fun x hx => by rw [List.eq_of_mem_replicate hx]; decide) (by simp [val, val_zeros]) G5 hbW)⟩
  case round =>
   clear G5 hbW; obtain ⟨wo, rfl⟩ : ∃ wo : World, wo = wr := ⟨_, rfl⟩; obtain ⟨i, zs0, rfl, hi, HST⟩ := hrel
   by_cases hiu : i < us.length
   ·have hxB : us[i] < 4294967296 := HU.out us[i] (List.getElem_mem _); have HTX := zh (val_take_succ hiu)
    have p1 : (i : Int) < (us.length : Int) := by omega
    go_wp2
    go_loopw [7, 8] (fun s7 s8 wr => ∃ (k c : Nat) (zs : List Nat), s7 = .int .u64 c ∧ s8 = .int .i64 k ∧ k ≤ vs.length ∧ Hid (MulIn us vs w.heap.size w wr i us[i] k c zs)) (fun _ s8 _ => vs.length - (intOf s8).toNat)
    case atStart => exact ⟨0, 0, _, rfl, rfl, Nat.zero_le _, zh (HST.out.into _)⟩
    case round =>
     obtain ⟨wn, rfl⟩ : ∃ wn : World, wn = wr := ⟨_, rfl⟩; obtain ⟨k, c, zs, rfl, rfl, hk, HIN⟩ := hrel; have hcB : c < 4294967296 := HIN.out.car
     by_cases hkv : k < vs.length
     ·have hyB : vs[k] < 4294967296 := HV.out vs[k] (List.getElem_mem _); have HTY := zh (val_take_succ hkv); obtain ⟨ad, rfl, hcx⟩ := Digs.at (HX.out.keep HIN.out.below) hiu; obtain ⟨bd, rfl, hcy⟩ := Digs.at (HY.out.keep HIN.out.below) hkv; generalize us[i] = x at *; generalize vs[k] = y at *
      have hj : i + k < zs.length := by rw [HIN.out.len]; omega
      obtain ⟨o, ho⟩ := eqx (zs[i + k])
      have hoB : o < 4294967296 := by rw [← ho]; exact HIN.out.dig _ (List.getElem_mem _)
      have c0 := HIN.out.blk.cell (i + k); have f0 := HIN.out.blk.frozen (i + k)
      have hzl : (zs ++ List.replicate (us.length - i) 0).length = us.length + vs.length := by rw [List.length_append, List.length_replicate, HIN.out.len]; omega
      rw [darr_at _ (by rw [hzl]; omega), List.getElem_append_left hj, ho] at c0; have hbd := mul_bound hcB hxB hyB hoB; simp only [B] at hbd
      have q0 : (0 : Int) ≤ (k : Int) := by omega
      have q1 : (k : Int) < (vs.length : Int) := by omega
      have q2 : (0 : Int) ≤ (i : Int) + (k : Int) := by omega
      have q3 : (i : Int) + (k : Int) < (us.length : Int) + (vs.length : Int) := by omega
      have q4 : ((i : Int) + (k : Int)).toNat = i + k := by omega
      have hxy : x * y < 18446744073709551616 := by omega
      have w1 : IntKind.u64.wrap ((x : Int) * (y : Int)) = ((x * y : Nat) : Int) := by have := wrap_nat (x * y) hxy; simpa using this
      have w2 : IntKind.u64.wrap (((x * y : Nat) : Int) + (o : Int)) = ((x * y + o : Nat) : Int) := by have := wrap_nat (x * y + o) (by omega); simpa using this
      have w3 : IntKind.u64.wrap ((c : Int) + ((x * y + o : Nat) : Int)) = ((c + (x * y + o) : Nat) : Int) := by have := wrap_nat (c + (x * y + o)) (by omega); simpa using this
      go_wp2
      go_region
      go_wp2; go_roundw
      case rel =>
       have hs := (HIN.out.step hkv (Nat.le_refl _) hxB hyB ho HTY.out).drew
       have e1 : (((c + (x * y + o)) % B : Nat) : Int) = ((c : Int) + ((x : Int) * (y : Int) + (o : Int))) % 4294967296 := by simp [B]
       have e2 : (((c + (x * y + o)) / B : Nat) : Int) = ((c : Int) + ((x : Int) * (y : Int) + (o : Int))) / 4294967296 := by simp [B]
       rw [e1] at hs; exact ⟨k + 1, (c + (x * y + o)) / B, _, by rw [e2], by go_num, by omega, zh hs⟩
      case measure => simp [intOf]; omega
     ·obtain rfl : k = vs.length := by omega
      have dd : decide (vs.length < vs.length) = false := by simp
      generalize us[i] = x at *; have c0 := HIN.out.blk.cell (i + vs.length); have f0 := HIN.out.blk.frozen (i + vs.length)
      have hzl : (zs ++ List.replicate (us.length - i) 0).length = us.length + vs.length := by rw [List.length_append, List.length_replicate, HIN.out.len]; omega
      rw [darr_at _ (by rw [hzl]; omega)] at c0; generalize (zs ++ List.replicate (us.length - i) 0)[i + vs.length]'(by rw [hzl]; omega) = old at c0
      have q2 : (0 : Int) ≤ (i : Int) + (vs.length : Int) := by omega
      have q3 : (i : Int) + (vs.length : Int) < (us.length : Int) + (vs.length : Int) := by omega
      have q4 : ((i : Int) + (vs.length : Int)).toNat = i + vs.length := by omega
      have w1 : (c : Int) % 4294967296 = (c : Int) := by omega
      go_wp2; go_roundw
      case rel => exact ⟨i + 1, _, by go_num, by omega, zh (HIN.out.out hiu (Nat.le_refl _) HTX.out)⟩
      case measure => simp [intOf]; omega
   ·obtain rfl : i = us.length := by omega
    have dd : decide (us.length < us.length) = false := by simp
    have hb1 := HST.out.blk; rw [Nat.sub_self, List.replicate_zero, List.append_nil] at hb1; have hdig := HST.out.dig; have hlen := HST.out.len; have hsum := HST.out.sum; rw [List.take_length] at hsum; have HT := zh (trim_dg (some ⟨w.heap.size, 0, none⟩) (us.length + vs.length) zs0 _ (digs_of hb1) hdig (by omega) (by omega)); have hdl := dg_val_len hdig; rw [hlen, hsum] at HT; rw [hlen, hsum] at hdl; clear hsum hb1 hdig hlen
    go_wp2_with (go_at_call 58; refine HT.out.mono ?_; rintro e w' ⟨rfl, rfl, hD⟩)
    go_ret; exact ⟨_, _, rfl, ND.some hD hdl, HST.out.below⟩
theorem mul_first0 (X Y : Option Addr) (cx cy m : Nat) (w : World) :
    Calls Tryz.prog 57 #[.slice X 0 cx, .slice Y m cy] w fun e w' => e = .returned (.slice none 0 0) ∧ w = w' := by
  go_enter Tryz.func57, Tryz.ntmps57; go_wp2; go_ret; exact ⟨rfl, rfl⟩
theorem mul_second0 (X Y : Option Addr) (cx cy n : Nat) (w : World) (hn : 0 < n) :
    Calls Tryz.prog 57 #[.slice X n cx, .slice Y 0 cy] w fun e w' => e = .returned (.slice none 0 0) ∧ w = w' := by
  have n1 : ¬ (n = 0) := by omega
  have n3 : ((n : Int) == 0) = false := beq_eq_false_iff_ne.2 (by omega); go_enter Tryz.func57, Tryz.ntmps57; go_wp2; go_ret; exact ⟨rfl, rfl⟩
theorem dg_len0 {a : Nat} (h : (dg a).length = 0) : a = 0 := by
 have := val_dg a
 rw [List.length_eq_zero_iff.1 h] at this
 exact this.symm
theorem retDg_zero {w : World} {e : Ending} {w' : World} (h : e = .returned (.slice none 0 0) ∧ w = w') : RetDg 0 w e w' := by
 obtain ⟨rfl, rfl⟩ := h
 refine ⟨none, 0, ?_, ND.zero _, Below.refl _ _⟩
 rw [dg_zero]; rfl
theorem nmul_any (X Y : Option Addr) (cx cy a b : Nat) (w : World) (hX : Digs w X (dg a)) (hY : Digs w Y (dg b)) (ha : (dg a).length ≤ 200000) (hb : (dg b).length ≤ 200000) :
    Calls Tryz.prog 57 #[.slice X (dg a).length cx, .slice Y (dg b).length cy] w (RetDg (a * b) w) := by
  by_cases h : 0 < (dg a).length ∧ 0 < (dg b).length
  ·have := mulloop X Y cx cy (dg a) (dg b) w hX hY (dg_dig a) (dg_dig b) h.1 h.2 ha hb
   rwa [val_dg, val_dg] at this
  ·by_cases h1 : (dg a).length = 0
   ·rw [h1, dg_len0 h1, Nat.zero_mul]
    exact (mul_first0 X Y cx cy _ w).mono fun e w' hh => retDg_zero hh
   ·have h2 : (dg b).length = 0 := by omega
    rw [h2, dg_len0 h2, Nat.mul_zero]
    exact (mul_second0 X Y cx cy _ w (by omega)).mono fun e w' hh => retDg_zero hh
end
end Go.Proofs.Tg
