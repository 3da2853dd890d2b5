/- Parts of the proof: BN17, BN22, BN19, BN23, BN24. -/
import Derived.Deep.Cut
import Derived.Deep.RegionHeld3
import Derived.Test.YtodjofbneeejpaaGreatDoorMBD2
import Derived.Test.YtodjofbneeejpaaGreatDoorMBD25
import Derived.Test.YtodjofbneeejpaaGreatDoorMBD27
section
/- The harness's divMag: every dividend, every divisor. -/
namespace Go.Proofs.Tg
open Go.RowKit Go.Gr Go.Bn
theorem dg_len_mono {a b : Nat} (h : a ≤ b) : (dg a).length ≤ (dg b).length := by
 rcases Nat.lt_or_ge (dg b).length (dg a).length with h1 | h1
 ·exact absurd (dg_lt_of_len h1) (by omega)
 ·exact h1
/-- The divisors for which divMag is walked. -/
def DvOk (b : Nat) : Prop := (dg b).length ≤ 200000
theorem DvOk.mono {a b : Nat} (h : DvOk b) (hab : a ≤ b) : DvOk a := Nat.le_trans (dg_len_mono hab) h
theorem DvOk.small {b : Nat} (h : b < B) : DvOk b := by
 unfold DvOk
 rcases Nat.eq_zero_or_pos b with h0 | h0
 ·rw [h0, dg_zero]; simp
 ·rw [dg_small (by omega) h]; simp
theorem dm_any (X Y : Option Addr) (cx cy a b : Nat) (w : World) (hX : ND w X cx a) (hY : ND w Y cy b) (hb0 : b ≠ 0) (_ : DvOk b) (hn : (dg a).length ≤ 200000) :
    Calls Tryz.prog 144 #[.slice X (dg a).length cx, .slice Y (dg b).length cy] w (RetDM (a / b) (a % b) w) := by
  rcases Nat.lt_or_ge a b with h | h
  ·have := div_less X Y cx cy a b w hX hY h (by omega)
   rwa [Nat.div_eq_of_lt h, Nat.mod_eq_of_lt h]
  ·rcases Nat.lt_or_ge (dg b).length 2 with h2 | h2
   ·have hb : b < B := by
     rcases Nat.lt_or_ge b B with h3 | h3
     ·exact h3
     ·have := dg_len_mono h3
      have h4 : (dg B).length = 2 := by decide +kernel
      omega
    exact div_digit X Y cx cy a b w hX hY h hb0 hb (by omega)
   ·exact div_long X Y cx cy a b w hX hY h h2 hn
end Go.Proofs.Tg
end
section
/- The harness's numbers: the greatest common divisor, any size of the first number, a second one that DvOk allows. -/
namespace Go.Proofs.Tg
open Go.RowKit Go.Gr Go.Bn
set_option maxHeartbeats 2000000
set_option maxRecDepth 100000
theorem digs_det {w : World} {A : Option Addr} {xs ys : List Nat} (h : Digs w A xs) (g : Digs w A ys) (hl : xs.length = ys.length) : xs = ys := by
 apply List.ext_getElem hl
 intro k h1 h2
 obtain ⟨ad, rfl, c1⟩ := h.at h1
 obtain ⟨ad2, e2, c2⟩ := g.at h2
 injection e2 with e2
 subst e2
 rw [c1] at c2
 injection c2 with c2
 injection c2 with _ c2
 omega
open Classical in
/-- The number that a slice of digits holds. -/
noncomputable def nmes (s : Value) (w : World) : Nat := if h : ∃ y, ∃ (Y : Option Addr) (c : Nat), s = .slice Y (dg y).length c ∧ Digs w Y (dg y) then h.choose else 0
theorem nmes_eq {w : World} {Y : Option Addr} {y c : Nat} (h : Digs w Y (dg y)) : nmes (.slice Y (dg y).length c) w = y := by
 have hex : ∃ y', ∃ (Y' : Option Addr) (c' : Nat), (Value.slice Y (dg y).length c) = .slice Y' (dg y').length c' ∧ Digs w Y' (dg y') := ⟨y, Y, c, rfl, h⟩
 unfold nmes
 rw [dif_pos hex]
 obtain ⟨Y', c', e, hd⟩ := hex.choose_spec
 injection e with e1 e2 _
 subst e1
 have := digs_det h hd e2
 rw [← val_dg hex.choose, ← this, val_dg]
def RetGc (g : Nat) (w : World) (e : Ending) (w' : World) : Prop :=
  ∃ G cg, e = .returned (.agg #[.bool false, .slice G (dg g).length cg]) ∧ ND w' G cg g ∧ Below w.heap.size w w'
theorem gcd_num (p q : Bool) (A B : Option Addr) (c d a b : Nat) (w : World) (hA : ND w A c a) (hB : ND w B d b) (ha : (dg a).length ≤ 200000) (hb : DvOk b) (hbl : (dg b).length ≤ 200000) :
    Calls Tryz.prog 123 #[.agg #[.bool p, .slice A (dg a).length c], .agg #[.bool q, .slice B (dg b).length d]] w (RetGc (Nat.gcd a b) w) := by
  obtain ⟨g, hg⟩ : ∃ g, Nat.gcd a b = g := ⟨_, rfl⟩
  rw [hg]
  have HG := Lib.hid ((Nat.gcd_comm b a).trans hg)
  obtain ⟨na, hna⟩ : ∃ na, (dg a).length = na := ⟨_, rfl⟩
  obtain ⟨nb, hnb⟩ : ∃ nb, (dg b).length = nb := ⟨_, rfl⟩
  rw [hna, hnb]
  have HNA := Lib.hid hna
  have HNB := Lib.hid hnb
  have HDB := Lib.hid hb
  have hal : na ≤ 200000 := by omega
  have hbl' : nb ≤ 200000 := by omega
  clear hg hna hnb hb ha hbl
  obtain ⟨W, hW⟩ : ∃ W, ((w.alloc (.cells #[.bool p, .slice A na c] 107)).alloc (.cells #[.bool q, .slice B nb d] 107)).alloc (.cells #[.bool false, .slice none 0 0] 107) = W := ⟨_, rfl⟩
  have B0 : Blk W w.heap.size 107 #[.bool p, .slice A na c] := by rw [← hW]; exact ((Blk.new _ _ _).alloc _).alloc _
  have B1 : Blk W (w.heap.size + 1) 107 #[.bool q, .slice B nb d] := by
   rw [← hW]; have := (Blk.new (w.alloc (.cells #[.bool p, .slice A na c] 107)) 107 #[.bool q, .slice B nb d]).alloc (.cells #[.bool false, .slice none 0 0] 107)
   simpa using this
  have B2 : Blk W (w.heap.size + 1 + 1) 107 #[.bool false, .slice none 0 0] := by
   rw [← hW]; have := (Blk.new ((w.alloc (.cells #[.bool p, .slice A na c] 107)).alloc (.cells #[.bool q, .slice B nb d] 107)) 107 #[.bool false, .slice none 0 0])
   simpa using this
  have hbW : Below w.heap.size w W := by rw [← hW]; exact (((Below.refl _ _).alloc (Nat.le_refl _) _).alloc (by simp) _).alloc (by simp; omega) _
  have hWs : W.heap.size = w.heap.size + 3 := by rw [← hW]; simp
  have HX : Hid (ND W A c a) := Lib.hid (hA.keep hbW)
  have HY : Hid (ND W B d b) := Lib.hid (hB.keep hbW)
  obtain ⟨a0, a1, _, _⟩ := B0.two
  obtain ⟨b0, b1, _, _⟩ := B1.two
  go_enter Tryz.func123, Tryz.ntmps123
  go_upto_region 1 with (fail)
  clear hW hA hB
  go_quiet (fail)
  go_wp2
  go_loopw [5, 6] (fun s5 s6 wr => ∃ (x y nx ny : Nat) (X : Option Addr) (cx : Nat) (Y : Option Addr) (cy : Nat), s5 = .slice X nx cx ∧ s6 = .slice Y ny cy ∧ nx ≤ 200000 ∧ ny ≤ 200000 ∧ Hid (DvOk y) ∧ Hid (nx = (dg x).length) ∧ Hid (ny = (dg y).length) ∧ Hid (ND wr X cx x) ∧ Hid (ND wr Y cy y) ∧ Hid (Nat.gcd y x = g) ∧ Below W.heap.size W wr) (fun _ s6 wr => nmes s6 wr)
  case atStart => exact ⟨a, b, na, nb, A, c, B, d, rfl, rfl, hal, hbl', HDB, Lib.hid HNA.out.symm, Lib.hid HNB.out.symm, Lib.hid (HX.out.keep (below_drewN (Below.refl _ _) _)), Lib.hid (HY.out.keep (below_drewN (Below.refl _ _) _)), HG, below_drewN (Below.refl _ _) _⟩
  case round =>
   obtain ⟨wo, rfl⟩ : ∃ wo : World, wo = wr := ⟨_, rfl⟩
   obtain ⟨x, y, nx, ny, X, cx, Y, cy, rfl, rfl, hnx, hny, HDV, HNX, HNY, HXD, HYD, HGG, hbr⟩ := hrel
   by_cases hy0 : y = 0
   ·subst hy0
    obtain rfl : ny = 0 := by have := HNY.out; rwa [dg_zero] at this
    obtain rfl : x = g := by have := HGG.out; rwa [Nat.gcd_zero_left] at this
    have K2 := B2.keep hbr (by omega)
    obtain ⟨k0, k1, k2, k3⟩ := K2.two
    have HM := Lib.hid (make1_any false X nx cx wo false rfl (by omega))
    have HBR := Lib.hid hbr
    go_wp2_with (go_at_call 118; refine HM.out.mono ?_; rintro e w2 ⟨rfl, hb2⟩
                 have K3 := K2.keep hb2 K2.lt
                 obtain ⟨j0, j1, j2, j3⟩ := K3.two)
    have hlt3 := K3.lt
    refine bodyPost_ret (v := .agg #[.bool false, .slice X nx cx]) (by simp [results, Tryz.results123, go_sem, j0, j1]) rfl ⟨X, cx, by rw [HNX.out], ⟨?_, HXD.out.cap, HXD.out.nilc⟩, ?_⟩
    ·have h1 := HXD.out.digs.keep hb2
     have h4 := Digs.put h1 j0 (by simp [vd]) (.bool false)
     exact Digs.put h4 (v := .slice none 0 0) (by rw [World.cell?_setCell_other _ _ _ _ (by simp)]; exact j1) (by simp [vd]) _
    ·have h1 := below_all (below_all hbW hbr) hb2
     exact (h1.setCell (by simp; omega) _).setCell (by simp; omega) _
   ·have hny0 : 0 < ny := by
     rw [HNY.out, dg_pos hy0]; simp
    have hnyI : decide ((0 : Int) < (ny : Int)) = true := decide_eq_true (by omega)
    have hnyN : decide (0 < ny) = true := decide_eq_true hny0
    have HD := Lib.hid (dm_any X Y cx cy x y wo HXD.out HYD.out hy0 HDV.out (by rw [← HNX.out]; exact hnx))
    rw [← HNX.out, ← HNY.out] at HD
    unfold RetDM at HD
    have hml : x % y < y := Nat.mod_lt _ (by omega)
    have HN : Hid (Nat.gcd (x % y) y = g) := Lib.hid (by rw [← Nat.gcd_rec]; exact HGG.out)
    have HDR : Hid (DvOk (x % y)) := Lib.hid (HDV.out.mono (by omega))
    have HLR : Hid ((dg (x % y)).length ≤ 200000) := Lib.hid (Nat.le_trans (dg_len_mono (Nat.le_of_lt hml)) (by rw [← HNY.out]; exact hny))
    have HM := Lib.hid (nmes_eq (c := cy) HYD.out.digs)
    rw [← HNY.out] at HM
    generalize x % y = r at *
    generalize x / y = qq at *
    have HML := Lib.hid hml
    clear hy0 hml
    go_wp2_with (go_at_call 144; refine HD.out.mono ?_; rintro e w2 ⟨Q, cq, R, cr, rfl, hQ, hR, hb2⟩)
    go_roundw
    case rel => exact ⟨y, r, ny, _, Y, cy, R, cr, rfl, rfl, hny, HLR.out, HDR, HNY, Lib.hid rfl, Lib.hid (HYD.out.keep hb2), Lib.hid hR, HN, below_all hbr hb2⟩
    case measure =>
     have h1 := HM.out
     have h2 := nmes_eq (c := cr) hR.digs
     have h3 := HML.out
     simp at h1 h2 ⊢
     omega
end Go.Proofs.Tg
end
section
/- The harness's numbers with a sign: FromInt. -/
namespace Go.Proofs.Tg
open Go.RowKit Go.Gr Go.Bn
set_option maxHeartbeats 4000000
set_option maxRecDepth 100000
/-- What a call returns for a number with a sign. -/
def RetZ (z : Int) (w : World) (e : Ending) (w' : World) : Prop :=
  ∃ R c, e = .returned (.agg #[.bool (decide (z < 0)), .slice R (dg z.natAbs).length c]) ∧ ND w' R c z.natAbs ∧ Below w.heap.size w w'
theorem dg_len_pos {u : Nat} : 0 < (dg u).length ↔ u ≠ 0 := by
 by_cases h : u = 0
 ·subst h; rw [dg_zero]; simp
 ·rw [dg_pos h]; simp [h]
theorem dg_two {u : Nat} (h : u < 18446744073709551616) : val [u % B, u / B] = u ∧ Dig [u % B, u / B] := by
 refine ⟨?_, fun x hx => ?_⟩
 ·simp only [val]; have := Nat.mod_add_div u B; omega
 ·simp only [List.mem_cons, List.not_mem_nil, or_false] at hx
  simp only [B] at *
  rcases hx with rfl | rfl <;> omega
theorem ND.far {w : World} {A : Option Addr} {c n g : Nat} {t : TypeId} {cs : Array Value} (h : ND w A c n) (B : Blk w g t cs) (hne : t ≠ 123) (i : Nat) (u : Value) : ND (w.setCell ⟨g, i, none⟩ u) A c n := ⟨h.digs.far (h.digs.off_ty B hne) i u, h.cap, h.nilc⟩
theorem fromint_num (n : Int) (h1 : -9223372036854775808 ≤ n) (h2 : n < 9223372036854775808) (w : World) :
    Calls Tryz.prog 94 #[.int .i64 n] w (RetZ n w) := by
  obtain ⟨u, hu⟩ : ∃ u : Nat, n.natAbs = u := ⟨_, rfl⟩
  have huB : u ≤ 9223372036854775808 := by omega
  obtain ⟨hv, hd⟩ := dg_two (u := u) (by omega)
  have hdl := dg_val_len hd
  rw [hv] at hdl
  have HL : Hid ((decide (n < 0) && decide (0 < (dg u).length)) = decide (n < 0)) := Lib.hid (by
   by_cases h : n < 0
   ·simp [h]; exact dg_len_pos.2 (by omega)
   ·simp [h])
  have hB0 := Blk.new w 107 #[.bool false, .slice none 0 0]
  have hcells : (#[.int .u32 ((u : Int) % 4294967296), .int .u32 ((u : Int) / 4294967296)] : Array Value) = darr [u % B, u / B] := by simp [darr, vd, B]
  have hB1 := Blk.new (w.alloc (.cells #[.bool false, .slice none 0 0] 107)) 123 (#[.int .u32 ((u : Int) % 4294967296), .int .u32 ((u : Int) / 4294967296)])
  have hB0 := hB0.alloc (.cells #[.int .u32 ((u : Int) % 4294967296), .int .u32 ((u : Int) / 4294967296)] 123)
  obtain ⟨W2, hW2⟩ : ∃ W2, (w.alloc (.cells #[.bool false, .slice none 0 0] 107)).alloc (.cells #[.int .u32 ((u : Int) % 4294967296), .int .u32 ((u : Int) / 4294967296)] 123) = W2 := ⟨_, rfl⟩
  have hbW2 : Below w.heap.size w W2 := by rw [← hW2]; exact ((Below.refl _ _).alloc (Nat.le_refl _) _).alloc (by simp) _
  rw [hW2, hcells, World.size_alloc] at hB1
  rw [hW2] at hB0
  have hdg : Digs W2 (Option.some ⟨w.heap.size + 1, 0, none⟩) (dg u) := by
   have h := (digs_of hB1).take (tzl [u % B, u / B] 2) (tzl_le _ _)
   have e := (tzl_dg hd).1
   rw [hv] at e
   rw [← e]; exact h
  have HT := Lib.hid (trim_dg (some ⟨w.heap.size + 1, 0, none⟩) 2 [u % B, u / B] W2 (digs_of hB1) hd (by simp) (by simp))
  rw [hv] at HT
  have HM := Lib.hid (fun V => make1_any (decide (n < 0)) (some ⟨w.heap.size + 1, 0, none⟩) (dg u).length 2 V (decide (n < 0)) HL.out (by simp at hdl; omega))
  unfold RetZ
  rw [hu]
  have HDL := Lib.hid hdl
  have HW2 := Lib.hid hW2
  have HND : Hid (∀ w', Digs w' (Option.some ⟨w.heap.size + 1, 0, none⟩) (dg u) → ND w' (Option.some ⟨w.heap.size + 1, 0, none⟩) 2 u) := Lib.hid (fun w' h => ND.some h hdl)
  obtain ⟨nl, hnl⟩ : ∃ nl, (dg u).length = nl := ⟨_, rfl⟩
  rw [hnl] at HT HM HL ⊢
  have hu64 : u < 18446744073709551616 := by omega
  have hw : ∃ v : Int, IntKind.u64.wrap n = v ∧ (n < 0 → IntKind.u64.wrap (-v) = (u : Int)) ∧ (¬ n < 0 → v = (u : Int)) := ⟨_, rfl, fun h => by rw [IntKind.wrap_u64, IntKind.wrap_u64]; omega, fun h => by rw [IntKind.wrap_u64]; omega⟩
  obtain ⟨v, w1, w2, w3⟩ := hw
  have hlast : ∀ W3 : World, Below W2.heap.size W2 W3 → ∀ q : Bool, q = decide (n < 0) → ∃ R c, Ending.returned (.agg #[.bool q, .slice (Option.some ⟨w.heap.size + 1, 0, none⟩) nl 2]) = .returned (.agg #[.bool (decide (n < 0)), .slice R nl c]) ∧ ND ((W3.setCell ⟨w.heap.size, 0, none⟩ (.bool q)).setCell ⟨w.heap.size, 1, none⟩ (.slice (Option.some ⟨w.heap.size + 1, 0, none⟩) nl 2)) R c u ∧ Below w.heap.size w ((W3.setCell ⟨w.heap.size, 0, none⟩ (.bool q)).setCell ⟨w.heap.size, 1, none⟩ (.slice (Option.some ⟨w.heap.size + 1, 0, none⟩) nl 2)) := fun W3 h q hq => by
   subst hq
   have hb0 := hB0.keep h hB0.lt
   have hd3 : ND W3 (Option.some ⟨w.heap.size + 1, 0, none⟩) 2 u := ND.some (hdg.keep h) hdl
   exact ⟨_, _, rfl, (hd3.far hb0 (by decide) _ _).far (hb0.set 0 _) (by decide) _ _, below_far (below_far (below_all hbW2 h) (Nat.le_refl _) _ _) (Nat.le_refl _) _ _⟩
  have HLS := Lib.hid hlast
  have HB0 := Lib.hid hB0
  clear hW2 hv hd hdl hnl hu huB hlast hB0 hB1 hcells hbW2
  by_cases hn : n < 0
  ·have w4 := w2 hn
   have d1 : decide (n < 0) = true := decide_eq_true hn
   rw [d1] at HM HL HLS ⊢
   clear w2 w3
   go_enter Tryz.func94, Tryz.ntmps94
   go_wp2_with (fail)
   rw [HW2.out]
   refine HT.out.mono ?_
   rintro e _ ⟨rfl, rfl, hD⟩
   go_wp2_with (fail)
   refine (HM.out _).mono ?_
   rintro e W3 ⟨rfl, hb3⟩
   have hb0 := HB0.out.keep hb3 HB0.out.lt
   obtain ⟨k0, k1, k2, k3⟩ := hb0.two
   go_wp2
   exact bodyPost_ret (v := .agg #[.bool true, .slice (Option.some ⟨w.heap.size + 1, 0, none⟩) nl 2]) (by simp [results, Tryz.results94, go_sem, k0, k1]) rfl (HLS.out _ hb3 true rfl)
  ·have w4 := w3 hn
   subst w4
   have d1 : decide (n < 0) = false := decide_eq_false hn
   rw [d1] at HM HL HLS ⊢
   clear w2 w3
   go_enter Tryz.func94, Tryz.ntmps94
   go_wp2_with (fail)
   rw [HW2.out]
   refine HT.out.mono ?_
   rintro e _ ⟨rfl, rfl, hD⟩
   go_wp2_with (fail)
   refine (HM.out _).mono ?_
   rintro e W3 ⟨rfl, hb3⟩
   have hb0 := HB0.out.keep hb3 HB0.out.lt
   obtain ⟨k0, k1, k2, k3⟩ := hb0.two
   go_wp2
   exact bodyPost_ret (v := .agg #[.bool false, .slice (Option.some ⟨w.heap.size + 1, 0, none⟩) nl 2]) (by simp [results, Tryz.results94, go_sem, k0, k1]) rfl (HLS.out _ hb3 false rfl)
end Go.Proofs.Tg
end
section
/- The harness's numbers: quotient and remainder with signs, any size. -/
namespace Go.Proofs.Tg
open Go.RowKit Go.Gr Go.Bn
set_option maxHeartbeats 4000000
set_option maxRecDepth 100000
theorem dg_sgn (b : Bool) (v : Nat) : (b && decide (0 < (dg v).length)) = (b && decide (v ≠ 0)) := by
 by_cases h : v = 0
 ·subst h; rw [dg_zero]; simp
 ·have := dg_len_pos.2 h
  simp [h, this]
def RetQn (p q : Bool) (a b : Nat) (w : World) (e : Ending) (w' : World) : Prop :=
  ∃ Q cq R cr, e = .returned (.tuple #[.agg #[.bool ((p != q) && decide (a / b ≠ 0)), .slice Q (dg (a / b)).length cq], .agg #[.bool (p && decide (a % b ≠ 0)), .slice R (dg (a % b)).length cr]]) ∧ ND w' Q cq (a / b) ∧ ND w' R cr (a % b) ∧ Below w.heap.size w w'
theorem quorem_num (p q : Bool) (A B : Option Addr) (c d a b : Nat) (w : World) (hA : ND w A c a) (hB : ND w B d b) (ha : (dg a).length ≤ 200000) (hb : b ≠ 0) (hd : DvOk b) :
    Calls Tryz.prog 125 #[.agg #[.bool p, .slice A (dg a).length c], .agg #[.bool q, .slice B (dg b).length d]] w (RetQn p q a b w) := by
  obtain ⟨na, hna⟩ : ∃ na, (dg a).length = na := ⟨_, rfl⟩
  obtain ⟨nb, hnb⟩ : ∃ nb, (dg b).length = nb := ⟨_, rfl⟩
  have HD : Hid (∀ W, Below w.heap.size w W → Calls Tryz.prog 144 #[.slice A na c, .slice B nb d] W (RetDM (a / b) (a % b) W)) := Lib.hid (fun W h => by
   rw [← hna, ← hnb]; exact dm_any A B c d a b W (hA.keep h) (hB.keep h) hb hd ha)
  rw [hna, hnb]
  unfold RetDM at HD
  unfold RetQn
  have hqs := fun bb => dg_sgn bb (a / b)
  have hrs := dg_sgn p (a % b)
  obtain ⟨s1, hs1⟩ : ∃ s1, ((p != q) && decide (a / b ≠ 0)) = s1 := ⟨_, rfl⟩
  rw [hs1]
  rw [← hqs] at hs1
  have l1 : (dg (a / b)).length ≤ 200000 := Nat.le_trans (dg_len_mono (Nat.div_le_self _ _)) ha
  have l2 : (dg (a % b)).length ≤ 200000 := Nat.le_trans (dg_len_mono (Nat.mod_le _ _)) ha
  rw [← hrs]
  clear hrs
  generalize a / b = qq at *
  generalize a % b = rr at *
  have HM1 : Hid (∀ W Q cq, Calls Tryz.prog 118 #[.bool (p != q), .slice Q (dg qq).length cq] W fun e w' => e = .returned (.agg #[.bool s1, .slice Q (dg qq).length cq]) ∧ Below W.heap.size W w') := Lib.hid (fun W Q cq => make1_any (p != q) Q (dg qq).length cq W s1 hs1 (by omega))
  obtain ⟨s2, hs2⟩ : ∃ s2, (p && decide (0 < (dg rr).length)) = s2 := ⟨_, rfl⟩
  rw [hs2]
  have HM2 : Hid (∀ W R cr, Calls Tryz.prog 118 #[.bool p, .slice R (dg rr).length cr] W fun e w' => e = .returned (.agg #[.bool s2, .slice R (dg rr).length cr]) ∧ Below W.heap.size W w') := Lib.hid (fun W Q cq => make1_any p Q (dg rr).length cq W s2 hs2 (by omega))
  obtain ⟨n1, hn1⟩ : ∃ n1, (dg qq).length = n1 := ⟨_, rfl⟩
  obtain ⟨n2, hn2⟩ : ∃ n2, (dg rr).length = n2 := ⟨_, rfl⟩
  rw [hn1, hn2] at HD
  rw [hn1] at HM1
  rw [hn2] at HM2
  rw [hn1, hn2]
  clear hqs hs1 hs2 hna hnb hn1 hn2 hA hB hd l1 l2 ha hb
  obtain ⟨W, hW⟩ : ∃ W, (((w.alloc (.cells #[.bool p, .slice A na c] 107)).alloc (.cells #[.bool q, .slice B nb d] 107)).alloc (.cells #[.bool false, .slice none 0 0] 107)).alloc (.cells #[.bool false, .slice none 0 0] 107) = W := ⟨_, rfl⟩
  have B0 : Blk W w.heap.size 107 #[.bool p, .slice A na c] := by rw [← hW]; exact (((Blk.new _ _ _).alloc _).alloc _).alloc _
  have B1 : Blk W (w.heap.size + 1) 107 #[.bool q, .slice B nb d] := by
   rw [← hW]; have := ((Blk.new (w.alloc (.cells #[.bool p, .slice A na c] 107)) 107 #[.bool q, .slice B nb d]).alloc (.cells #[.bool false, .slice none 0 0] 107)).alloc (.cells #[.bool false, .slice none 0 0] 107)
   simpa using this
  have B2 : Blk W (w.heap.size + 1 + 1) 107 #[.bool false, .slice none 0 0] := by
   rw [← hW]; have := (Blk.new ((w.alloc (.cells #[.bool p, .slice A na c] 107)).alloc (.cells #[.bool q, .slice B nb d] 107)) 107 #[.bool false, .slice none 0 0]).alloc (.cells #[.bool false, .slice none 0 0] 107)
   simpa using this
  have B3 : Blk W (w.heap.size + 1 + 1 + 1) 107 #[.bool false, .slice none 0 0] := by
   rw [← hW]; have := (Blk.new (((w.alloc (.cells #[.bool p, .slice A na c] 107)).alloc (.cells #[.bool q, .slice B nb d] 107)).alloc (.cells #[.bool false, .slice none 0 0] 107)) 107 #[.bool false, .slice none 0 0])
   simpa using this
  have hbW : Below w.heap.size w W := by rw [← hW]; exact ((((Below.refl _ _).alloc (Nat.le_refl _) _).alloc (by simp) _).alloc (by simp; omega) _).alloc (by simp; omega) _
  have hWs : W.heap.size = w.heap.size + 4 := by rw [← hW]; simp
  obtain ⟨a0, a1, _, _⟩ := B0.two
  obtain ⟨b0, b1, _, _⟩ := B1.two
  go_enter Tryz.func125, Tryz.ntmps125
  go_upto_region 1 with (fail)
  clear hW
  go_upto_region 2 with (go_at_call 144; refine (HD.out _ hbW).mono ?_; rintro e w2 ⟨Q, cq, R, cr, rfl, hQ, hR, hb2⟩)
  have C0 := B0.keep hb2 B0.lt
  have C1 := B1.keep hb2 B1.lt
  have C2 := B2.keep hb2 B2.lt
  have C3 := B3.keep hb2 B3.lt
  have hbe : Below w2.heap.size w2 w2.drew := (Below.refl _ _).drew
  have HM1' : Hid (∀ V, Below w2.heap.size w2 V → Calls Tryz.prog 118 #[.bool (!(p == q)), .slice Q n1 cq] V fun e w' => e = .returned (.agg #[.bool s1, .slice Q n1 cq]) ∧ Below w2.heap.size w2 w') := Lib.hid (fun V h => (HM1.out V Q cq).mono fun e w' ⟨x, y⟩ => ⟨x, below_all h y⟩)
  have HM2' : Hid (∀ V, Below w2.heap.size w2 V → Calls Tryz.prog 118 #[.bool p, .slice R n2 cr] V fun e w' => e = .returned (.agg #[.bool s2, .slice R n2 cr]) ∧ Below w2.heap.size w2 w') := Lib.hid (fun V h => (HM2.out V R cr).mono fun e w' ⟨x, y⟩ => ⟨x, below_all h y⟩)
  have hbw2 := below_all hbW hb2
  have HC2 := Lib.hid C2
  have HC3 := Lib.hid C3
  obtain ⟨e0, e1, _, _⟩ := C0.two
  obtain ⟨g0, g1, _, _⟩ := C1.two
  obtain ⟨i0, i1, i2, i3⟩ := C2.two
  obtain ⟨k0, k1, k2, k3⟩ := C3.two
  clear HM1 HM2 HD B0 B1 B2 B3 a0 a1 b0 b1 hb2 C2 C3
  have HC0 := Lib.hid C0
  have HC1 := Lib.hid C1
  clear C0 C1
  go_region_with
    (first
      | (go_at_call 118; with_reducible refine (HM1'.out _ (by assumption)).mono ?_; rintro e w' ⟨rfl, hbe⟩; have D0 := HC0.out.keep hbe HC0.out.lt; have D1 := HC1.out.keep hbe HC1.out.lt; obtain ⟨e0, e1, _, _⟩ := D0.two; obtain ⟨g0, g1, _, _⟩ := D1.two; have D2 := HC2.out.keep hbe HC2.out.lt; have D3 := HC3.out.keep hbe HC3.out.lt; obtain ⟨i0, i1, i2, i3⟩ := D2.two; obtain ⟨k0, k1, k2, k3⟩ := D3.two)
      | (go_at_call 118; with_reducible refine (HM2'.out _ (by assumption)).mono ?_; rintro e w' ⟨rfl, hbe⟩; have D0 := HC0.out.keep hbe HC0.out.lt; have D1 := HC1.out.keep hbe HC1.out.lt; obtain ⟨e0, e1, _, _⟩ := D0.two; obtain ⟨g0, g1, _, _⟩ := D1.two; have D2 := HC2.out.keep hbe HC2.out.lt; have D3 := HC3.out.keep hbe HC3.out.lt; obtain ⟨i0, i1, i2, i3⟩ := D2.two; obtain ⟨k0, k1, k2, k3⟩ := D3.two))
  all_goals
    go_wp2
    have hQ' : ND w' Q cq qq := hQ.keep hbe
    have hR' : ND w' R cr rr := hR.keep hbe
    refine bodyPost_ret (v := .tuple #[.agg #[.bool s1, .slice Q n1 cq], .agg #[.bool s2, .slice R n2 cr]]) (by simp [results, Tryz.results125, go_sem, i0, i1, k0, k1]) rfl ⟨Q, cq, R, cr, rfl, ?_, ?_, ?_⟩
    ·exact (((hQ'.far D2 (by decide) _ _).far (D2.set _ _) (by decide) _ _).far ((D3.far (by simp) _).far (by simp) _) (by decide) _ _).far (((D3.far (by simp) _).far (by simp) _).set _ _) (by decide) _ _
    ·exact (((hR'.far D2 (by decide) _ _).far (D2.set _ _) (by decide) _ _).far ((D3.far (by simp) _).far (by simp) _) (by decide) _ _).far (((D3.far (by simp) _).far (by simp) _).set _ _) (by decide) _ _
    ·exact below_far (below_far (below_far (below_far (below_all hbw2 hbe) (by omega) _ _) (by omega) _ _) (by omega) _ _) (by omega) _ _
end Go.Proofs.Tg
end
section
/- The harness's numbers: fractions in lowest terms, any size of the numerator. -/
namespace Go.Proofs.Tg
open Go.RowKit Go.Gr Go.Bn
set_option maxHeartbeats 4000000
set_option maxRecDepth 100000
/-- What the field of the denominator holds. -/
def dnz (x : Nat) : Nat := if x = 1 then 0 else x
theorem dnz_pos {x : Nat} (h : x ≠ 1) : dnz x = x := if_neg h
theorem dnz_one : dnz 1 = 0 := rfl
def RetFr (p : Bool) (n m : Nat) (w : World) (e : Ending) (w' : World) : Prop :=
  ∃ N cn D cd, e = .returned (.agg #[.bool p, .slice N (dg n).length cn, .bool false, .slice D (dg (dnz m)).length cd]) ∧ ND w' N cn n ∧ ND w' D cd (dnz m) ∧ Below w.heap.size w w'
structure FqSt (w : World) (p : Bool) (n m : Nat) (N : Option Addr) (cn : Nat) (D : Option Addr) (cd : Nat) (wx : World) : Prop where
  below : Below w.heap.size w wx
  b0 : Blk wx w.heap.size 107 #[.bool p, .slice N (dg n).length cn]
  b1 : Blk wx (w.heap.size + 1) 107 #[.bool false, .slice D (dg m).length cd]
  b2 : Blk wx (w.heap.size + 1 + 1) 109 #[.bool false, .slice none 0 0, .bool false, .slice none 0 0]
  dn : ND wx N cn n
  dd : ND wx D cd m
theorem frac_num (p : Bool) (A B : Option Addr) (c d a b : Nat) (w : World) (hA : ND w A c a) (hB : ND w B d b) (ha : (dg a).length ≤ 200000) (hd : b < 4294967296) (hb0 : b ≠ 0) (hp : p = true → a ≠ 0) :
    Calls Tryz.prog 91 #[.agg #[.bool p, .slice A (dg a).length c], .agg #[.bool false, .slice B (dg b).length d]] w (RetFr p (a / Nat.gcd a b) (b / Nat.gcd a b) w) := by
  have hb : b < 4294967296 := hd
  have hbl1 : (dg b).length ≤ 200000 := by rw [dg_small hb0 hb]; simp
  have HG : Hid (∀ W, Below w.heap.size w W → Calls Tryz.prog 123 #[.agg #[.bool p, .slice A (dg a).length c], .agg #[.bool false, .slice B (dg b).length d]] W (RetGc (Nat.gcd a b) W)) := Lib.hid (fun W h => gcd_num p false A B c d a b W (hA.keep h) (hB.keep h) ha (DvOk.small hd) hbl1)
  have hg0 : Nat.gcd a b ≠ 0 := Nat.pos_iff_ne_zero.1 (Nat.gcd_pos_of_pos_right _ (by omega))
  have hgl : Nat.gcd a b ≤ b := Nat.gcd_le_right _ (by omega)
  have hm0 : b / Nat.gcd a b ≠ 0 := Nat.pos_iff_ne_zero.1 (Nat.div_pos hgl (by omega))
  have hml : b / Nat.gcd a b ≤ b := Nat.div_le_self _ _
  have HSG : Hid (p = true → a / Nat.gcd a b ≠ 0) := Lib.hid (fun h => Nat.pos_iff_ne_zero.1 (Nat.div_pos (Nat.gcd_le_left _ (Nat.pos_of_ne_zero (hp h))) (by omega)))
  generalize Nat.gcd a b = g at *
  have hgB : g < 4294967296 := by omega
  have hdg : DvOk g := DvOk.small hgB
  clear hbl1
  have hng : (dg g).length = 1 := by rw [dg_small hg0 hgB]; rfl
  have hnb : (dg b).length = 1 := by rw [dg_small hb0 hb]; rfl
  obtain ⟨na, hna⟩ : ∃ na, (dg a).length = na := ⟨_, rfl⟩
  rw [hna, hnb] at HG
  rw [hna, hnb]
  unfold RetGc at HG
  rw [hng] at HG
  have HNA := Lib.hid hna
  have hal : na ≤ 200000 := by omega
  have HNB1 := Lib.hid hnb
  have HNG1 := Lib.hid hng
  clear hna hnb hng
  obtain ⟨W, hW⟩ : ∃ W, ((w.alloc (.cells #[.bool p, .slice A na c] 107)).alloc (.cells #[.bool false, .slice B 1 d] 107)).alloc (.cells #[.bool false, .slice none 0 0, .bool false, .slice none 0 0] 109) = W := ⟨_, rfl⟩
  have B0 : Blk W w.heap.size 107 #[.bool p, .slice A na c] := by rw [← hW]; exact ((Blk.new _ _ _).alloc _).alloc _
  have B1 : Blk W (w.heap.size + 1) 107 #[.bool false, .slice B 1 d] := by
   rw [← hW]; have := (Blk.new (w.alloc (.cells #[.bool p, .slice A na c] 107)) 107 #[.bool false, .slice B 1 d]).alloc (.cells #[.bool false, .slice none 0 0, .bool false, .slice none 0 0] 109)
   simpa using this
  have B2 : Blk W (w.heap.size + 1 + 1) 109 #[.bool false, .slice none 0 0, .bool false, .slice none 0 0] := by
   rw [← hW]; have := (Blk.new ((w.alloc (.cells #[.bool p, .slice A na c] 107)).alloc (.cells #[.bool false, .slice B 1 d] 107)) 109 #[.bool false, .slice none 0 0, .bool false, .slice none 0 0])
   simpa using this
  have hbW : Below w.heap.size w W := by rw [← hW]; exact (((Below.refl _ _).alloc (Nat.le_refl _) _).alloc (by simp) _).alloc (by simp; omega) _
  have hWs : W.heap.size = w.heap.size + 3 := by rw [← hW]; simp
  obtain ⟨a0, a1, _, _⟩ := B0.two
  obtain ⟨b0, b1, _, _⟩ := B1.two
  go_enter Tryz.func91, Tryz.ntmps91
  go_upto_region 1 with (fail)
  clear hW
  go_upto_region 4 with (go_at_call 123; refine (HG.out _ hbW).mono ?_; rintro e w2 ⟨G, cg, rfl, hG, hb2⟩)
  obtain ⟨V, hV⟩ : ∃ V, w2.alloc (.cells #[.bool false, .slice G 1 cg] 107) = V := ⟨_, rfl⟩
  try rw [hV]
  have hbV : Below w2.heap.size w2 V := by rw [← hV]; exact (Below.refl _ _).alloc (Nat.le_refl _) _
  have C5 : Blk V w2.heap.size 107 #[.bool false, .slice G 1 cg] := by rw [← hV]; exact Blk.new _ _ _
  have C0 := (B0.keep hb2 B0.lt).keep hbV (B0.keep hb2 B0.lt).lt
  have C1 := (B1.keep hb2 B1.lt).keep hbV (B1.keep hb2 B1.lt).lt
  have C2 := (B2.keep hb2 B2.lt).keep hbV (B2.keep hb2 B2.lt).lt
  have hbwV := below_all (below_all hbW hb2) hbV
  have hGV := hG.keep hbV
  have hs2 : W.heap.size ≤ w2.heap.size := hb2.size
  clear hb2 hG hbV hV a0 a1 b0 b1 B0 B1 B2 HG
  obtain ⟨g0, g1, _, _⟩ := C5.two
  have HB : Hid (Calls Tryz.prog 124 #[.agg #[.bool false, .slice G 1 cg]] V fun e w' => e = .returned (.int .i64 (blen g : Nat)) ∧ Below V.heap.size V w') := Lib.hid (bits_one false G cg g V (by have := hGV.digs; rwa [dg_small hg0 hgB] at this) (by omega))
  have hbl := blen_le g g (Nat.le_refl _)
  have HBG := Lib.hid (blen_gt (v := g))
  obtain ⟨bg, hbg⟩ : ∃ bg, blen g = bg := ⟨_, rfl⟩
  rw [hbg] at HB HBG hbl
  clear hbg
  go_upto_if 17 with (go_at_call 124; refine HB.out.mono ?_; rintro e w3 ⟨rfl, hb3⟩)
  have D0 := C0.keep hb3 C0.lt
  have D1 := C1.keep hb3 C1.lt
  have D2 := C2.keep hb3 C2.lt
  have D5 := C5.keep hb3 C5.lt
  have hb3' := below_all hbwV hb3
  have hG3 := hGV.keep hb3
  have HSN : Hid (∀ W N cn D cd, FqSt w p (a / g) (b / g) N cn D cd W → FqSt w p (a / g) (b / g) N cn D cd W) := Lib.hid (fun _ _ _ _ _ h => h)
  go_cut [] from 17 (fun wx => ∃ N cn D cd, FqSt w p (a / g) (b / g) N cn D cd wx)
  case first =>
   by_cases h1 : g = 1
   ·have hbb : decide ((1 : Int) < (bg : Int)) = false := by
     have := HBG.out
     simp; omega
    have hbb' : decide (1 < bg) = false := by
     have := HBG.out
     simp; omega
    have HF : Hid (FqSt w p (a / g) (b / g) A c B d w3) := Lib.hid (by
     rw [h1, Nat.div_one, Nat.div_one]
     exact ⟨hb3', by rw [HNA.out]; exact D0, by rw [HNB1.out]; exact D1, D2, hA.keep hb3', hB.keep hb3'⟩)
    go_wp2
    go_meet
    exact ⟨A, c, B, d, HF.out⟩
   ·have hbb : decide ((1 : Int) < (bg : Int)) = true := by
     have := HBG.out
     simp; omega
    have hbb' : decide (1 < bg) = true := by
     have := HBG.out
     simp; omega
    have hbi : (1 : Int) < (bg : Int) := by
     have := HBG.out
     omega
    have HQ1 : Hid (∀ W, Below w3.heap.size w3 W → Calls Tryz.prog 125 #[.agg #[.bool p, .slice A na c], .agg #[.bool false, .slice G 1 cg]] W (RetQn p false a g W)) := Lib.hid (fun W h => by
     have := quorem_num p false A G c cg a g W ((hA.keep hb3').keep h) (hG3.keep h) ha hg0 hdg
     rw [HNA.out, HNG1.out] at this
     exact this)
    have HQ2 : Hid (∀ W, ND W B d b → ND W G cg g → Calls Tryz.prog 125 #[.agg #[.bool false, .slice B 1 d], .agg #[.bool false, .slice G 1 cg]] W (RetQn false false b g W)) := Lib.hid (fun W h h' => by
     have := quorem_num false false B G d cg b g W h h' (by rw [HNB1.out]; omega) hg0 hdg
     rw [HNB1.out, HNG1.out] at this
     exact this)
    have hsg : ((p != false) && decide (a / g ≠ 0)) = p := by
     have := HSG.out
     cases p with
     | false => rfl
     | true => simp [this rfl]
    have hsg2 : ((false != false) && decide (b / g ≠ 0)) = false := rfl
    unfold RetQn at HQ1 HQ2
    rw [hsg] at HQ1
    rw [hsg2] at HQ2
    clear hsg hsg2
    generalize a / g = qn at *
    generalize b / g = qm at *
    obtain ⟨d0, d1, d2, d3⟩ := D0.two
    obtain ⟨f0, f1, _, _⟩ := D5.two
    go_wp2_with (fail)
    refine (HQ1.out _ (Below.refl _ _)).mono ?_
    rintro e w4 ⟨N, cn, _, _, rfl, hN, _, hb4⟩
    clear d0 d1 d2 d3 f0 f1
    have E0 := D0.keep hb4 D0.lt
    have E1 := D1.keep hb4 D1.lt
    have E2 := D2.keep hb4 D2.lt
    have E5 := D5.keep hb4 D5.lt
    have E5lt := D5.lt
    obtain ⟨d0, d1, d2, d3⟩ := E0.two
    have hB4 : ND w4 B d b := (hB.keep hb3').keep hb4
    have hG4 := hG3.keep hb4
    obtain ⟨V5, hV5⟩ : ∃ V5, (w4.setCell ⟨w.heap.size, 0, none⟩ (.bool p)).setCell ⟨w.heap.size, 1, none⟩ (.slice N (dg qn).length cn) = V5 := ⟨_, rfl⟩
    have F0 : Blk V5 w.heap.size 107 #[.bool p, .slice N (dg qn).length cn] := by rw [← hV5]; exact (E0.set 0 _).set 1 _
    have F1 : Blk V5 (w.heap.size + 1) 107 #[.bool false, .slice B 1 d] := by rw [← hV5]; exact (E1.far (by simp) _).far (by simp) _
    have F2 : Blk V5 (w.heap.size + 1 + 1) 109 #[.bool false, .slice none 0 0, .bool false, .slice none 0 0] := by rw [← hV5]; exact (E2.far (by simp; omega) _).far (by simp; omega) _
    have F5 : Blk V5 w2.heap.size 107 #[.bool false, .slice G 1 cg] := by rw [← hV5]; exact (E5.far (by simp; omega) _).far (by simp; omega) _
    have hN5 : ND V5 N cn qn := by rw [← hV5]; exact (hN.far E0 (by decide) _ _).far (E0.set _ _) (by decide) _ _
    have hB5 : ND V5 B d b := by rw [← hV5]; exact (hB4.far E0 (by decide) _ _).far (E0.set _ _) (by decide) _ _
    have hG5 : ND V5 G cg g := by rw [← hV5]; exact (hG4.far E0 (by decide) _ _).far (E0.set _ _) (by decide) _ _
    have hb5 : Below w.heap.size w V5 := by rw [← hV5]; exact below_far (below_far (below_all hb3' hb4) (Nat.le_refl _) _ _) (Nat.le_refl _) _ _
    clear E0 E1 E2 E5 hN hB4 hG4 hb4
    obtain ⟨e0, e1, e2, e3⟩ := F1.two
    obtain ⟨f0, f1, _, _⟩ := F5.two
    go_upto_region 6 with (fail)
    try rw [hV5]
    clear hV5 d0 d1 d2 d3
    go_wp2_with (fail)
    refine (HQ2.out _ hB5 hG5).mono ?_
    rintro e w6 ⟨D, cd, _, _, rfl, hD, _, hb6⟩
    have G1 := F1.keep hb6 F1.lt
    clear e0 e1 e2 e3 f0 f1
    obtain ⟨e0, e1, e2, e3⟩ := G1.two
    go_wp2
    go_meet
    refine ⟨N, cn, D, cd, ?_, ?_, ?_, ?_, ?_, ?_⟩
    ·exact below_far (below_far (below_all hb5 hb6) (by omega) _ _) (by omega) _ _
    ·exact ((F0.keep hb6 F0.lt).far (by simp) _).far (by simp) _
    ·exact (G1.set 0 _).set 1 _
    ·exact ((F2.keep hb6 F2.lt).far (by simp) _).far (by simp) _
    ·exact ((hN5.keep hb6).far G1 (by decide) _ _).far (G1.set _ _) (by decide) _ _
    ·exact (hD.far G1 (by decide) _ _).far (G1.set _ _) (by decide) _ _
    all_goals (exfalso; omega)
  case rest =>
   obtain ⟨N, cn, D, cd, hst⟩ := hcut
   obtain ⟨hbx, X0, X1, X2, dn, dd⟩ := hst
   clear C0 C1 C2 C5 D0 D1 D2 D5 g0 g1
   generalize a / g = qn at *
   have HFIN := Lib.hid dn
   have HFID := Lib.hid dd
   have hmB : b / g < 4294967296 := by omega
   generalize b / g = qm at *
   have hml1 : (dg qm).length = 1 := by rw [dg_small hm0 hmB]; rfl
   rw [hml1] at X1
   have HML1 := Lib.hid hml1
   clear hml1
   have HB2 : Hid (Calls Tryz.prog 124 #[.agg #[.bool false, .slice D 1 cd]] wc fun e w' => e = .returned (.int .i64 (blen qm : Nat)) ∧ Below wc.heap.size wc w') := Lib.hid (bits_one false D cd qm wc (by have := dd.digs; rwa [dg_small hm0 hmB] at this) (by omega))
   have hbl2 := blen_le qm qm (Nat.le_refl _)
   have HB1 := Lib.hid (blen_one (v := qm))
   obtain ⟨bm, hbm⟩ : ∃ bm, blen qm = bm := ⟨_, rfl⟩
   rw [hbm] at HB2 HB1 hbl2
   clear hbm
   obtain ⟨nn, hnn⟩ : ∃ nn, (dg qn).length = nn := ⟨_, rfl⟩
   rw [hnn] at X0
   have HNN := Lib.hid hnn
   clear hnn
   obtain ⟨x0, x1, _, _⟩ := X0.two
   obtain ⟨y0, y1, y2, y3⟩ := X1.two
   by_cases hm1 : qm = 1
   ·have hbb : ((bm : Int) == 1) = true := by
     have := HB1.out.2 hm1
     simp [this]
    have hbb' : (bm == 1) = true := by
     have := HB1.out.2 hm1
     simp [this]
    have HDL : Hid (dnz qm = 0) := Lib.hid (if_pos hm1)
    clear hm1
    go_wp2_with (go_at_call 124; refine HB2.out.mono ?_; rintro e w7 ⟨rfl, hb7⟩
                 have Y0 := X0.keep hb7 X0.lt
                 have Y1 := X1.keep hb7 X1.lt
                 have Y2 := X2.keep hb7 X2.lt
                 obtain ⟨x0, x1, x2, x3⟩ := Y0.two
                 obtain ⟨y0, y1, y2, y3⟩ := Y1.two
                 obtain ⟨z0, z1, z2, z3, v0, v1, v2, v3⟩ := Y2.four)
    have hn7 := HFIN.out.keep hb7
    have Y2' := fun u u' => (Y2.far (p := ⟨w.heap.size + 1, 0, none⟩) (by simp) u).far (p := ⟨w.heap.size + 1, 1, none⟩) (by simp) u'
    refine bodyPost_ret (v := .agg #[.bool p, .slice N nn cn, .bool false, .slice none 0 0]) (by simp [results, Tryz.results91, go_sem, z0, z1, z2, z3]) rfl ⟨N, cn, none, 0, by rw [HNN.out, HDL.out, dg_zero]; rfl, ?_, by rw [HDL.out]; exact ND.zero _, ?_⟩
    ·exact ((((hn7.far Y1 (by decide) _ _).far (Y1.set _ _) (by decide) _ _).far (Y2' _ _) (by decide) _ _).far ((Y2' _ _).set _ _) (by decide) _ _ |>.far (((Y2' _ _).set _ _).set _ _) (by decide) _ _).far ((((Y2' _ _).set _ _).set _ _).set _ _) (by decide) _ _
    ·exact below_far (below_far (below_far (below_far (below_far (below_far (below_all hbx hb7) (by omega) _ _) (by omega) _ _) (by omega) _ _) (by omega) _ _) (by omega) _ _) (by omega) _ _
   ·have hbb : ((bm : Int) == 1) = false := by
     have := HB1.out
     simp; omega
    have hbb' : (bm == 1) = false := by
     have := HB1.out
     simp; omega
    have HDL : Hid (dnz qm = qm) := Lib.hid (if_neg hm1)
    have HM0 := Lib.hid hm0
    clear hm1
    go_wp2_with (go_at_call 124; refine HB2.out.mono ?_; rintro e w7 ⟨rfl, hb7⟩
                 have Y0 := X0.keep hb7 X0.lt
                 have Y1 := X1.keep hb7 X1.lt
                 have Y2 := X2.keep hb7 X2.lt
                 obtain ⟨x0, x1, x2, x3⟩ := Y0.two
                 obtain ⟨y0, y1, y2, y3⟩ := Y1.two
                 obtain ⟨z0, z1, z2, z3, v0, v1, v2, v3⟩ := Y2.four)
    have hn7 := HFIN.out.keep hb7
    have hd7 := HFID.out.keep hb7
    refine bodyPost_ret (v := .agg #[.bool p, .slice N nn cn, .bool false, .slice D 1 cd]) (by simp [results, Tryz.results91, go_sem, z0, z1, z2, z3]) rfl ⟨N, cn, D, cd, by rw [HNN.out, HDL.out, HML1.out], ?_, ?_, ?_⟩
    ·exact (((hn7.far Y2 (by decide) _ _).far (Y2.set _ _) (by decide) _ _).far ((Y2.set _ _).set _ _) (by decide) _ _).far (((Y2.set _ _).set _ _).set _ _) (by decide) _ _
    ·rw [HDL.out]; exact (((hd7.far Y2 (by decide) _ _).far (Y2.set _ _) (by decide) _ _).far ((Y2.set _ _).set _ _) (by decide) _ _).far (((Y2.set _ _).set _ _).set _ _) (by decide) _ _
    ·exact below_far (below_far (below_far (below_far (below_all hbx hb7) (by omega) _ _) (by omega) _ _) (by omega) _ _) (by omega) _ _
end Go.Proofs.Tg
end
