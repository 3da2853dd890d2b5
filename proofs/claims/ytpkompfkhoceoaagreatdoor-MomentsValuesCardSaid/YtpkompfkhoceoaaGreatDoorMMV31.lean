/- Parts of the proof: RO2. -/
import Derived.Test.YtpkompfkhoceoaaGreatDoorMMV30
section
/- The reference's functional of points with weights: Of. -/
namespace Go.Proofs.Tg
open Go.RowKit Go.Gr Go.Bn Go.Rq Go.Mm
open Go.Proofs.Tg.Fi (QsAt)
open Go.Proofs.Tg.Sx (one1)
set_option maxHeartbeats 8000000
set_option maxRecDepth 100000
/-- The reference's functional. -/
def RetL (v d : Nat) (qs : List Rat) (w : World) (e : Ending) (w' : World) : Prop :=
  ∃ A c rs, e = .returned (.agg #[.int .i64 (v : Nat), .int .i64 (d : Nat), .slice A (List.length rs) c]) ∧ OwnQ w.heap.size w' A c rs ∧ rs.map RVal.q = qs ∧ Below w.heap.size w w'
/-- What the outer loop of Of holds. -/
structure RoSt (w w3 : World) (v d : Nat) (wr : World) (k : Nat) (A : Option Addr) (c : Nat) (rs : List RVal) (qs : List Rat) : Prop where
  tk : Tk (w.heap.size + 1) w3 wr
  below : Below w.heap.size w wr
  b6 : Blk wr w.heap.size 29 #[.int .i64 0, .int .i64 0, .slice none 0 0]
  b7 : Blk wr (w.heap.size + 1) 29 #[.int .i64 (v : Nat), .int .i64 (d : Nat), .slice A k c]
  own : OwnQ w3.heap.size wr A c rs
  len : rs.length = k
  q : rs.map RVal.q = qs.take k
/-- What the inner loop of Of holds. -/
structure RiSt (wo : World) (v g10 : Nat) (R : Addr) (cR g11 : Nat) (r1 : RVal) (E : Value) (wr : World) (r : RVal) (q : Rat) : Prop where
  below : Below g10 wo wr
  b10 : RBlk wr g10 r
  b11 : Blk wr g11 65 #[.int .i64 (v : Nat), .slice (some R) 1 cR]
  own : wr.ownsRow (g10 + 1) 99 5 (.slice (some R) 1 cR) 1 (r1.cells ++ [E])
  ok : r1.Ok wr
  q : r.q = q
/-- What stands behind the sum of one term. -/
structure RmSt (W1 : World) (v : Nat) (R : Addr) (cR g11 : Nat) (A1 : Option Addr) (c1 : Nat) (E : Value) (wx : World) : Prop where
  below : Below W1.heap.size W1 wx
  b11 : Blk wx g11 65 #[.int .i64 (v : Nat), .slice (some R) 1 cR]
  le : W1.heap.size ≤ g11
  own : wx.ownsRow W1.heap.size 99 5 (.slice (some R) 1 cR) 1 ((r1v A1 c1).cells ++ [E])
  ok : (r1v A1 c1).Ok wx
theorem blk_call {w w' : World} {g : Nat} {t : TypeId} {cs : Array Value} (B : Blk w g t cs) (h : Below w.heap.size w w') : Blk w' g t cs := B.keep h B.lt
theorem blk_new1 (w : World) (o : Obj) (t : TypeId) (cs : Array Value) : Blk ((w.alloc o).alloc (.cells cs t)) (w.heap.size + 1) t cs := by
  have := Blk.new (w.alloc o) t cs
  simpa using this
theorem blk_newd (w : World) (t : TypeId) (cs : Array Value) : Blk (w.alloc (.cells cs t)).drew w.heap.size t cs := (Blk.new w t cs).keep (Below.refl _ _).drew (Blk.new w t cs).lt
theorem rm_new {W1 wx : World} {v : Nat} {R : Addr} {cR : Nat} {A1 : Option Addr} {c1 : Nat} {E : Value} (hb : Below W1.heap.size W1 wx) (own : wx.ownsRow W1.heap.size 99 5 (.slice (some R) 1 cR) 1 ((r1v A1 c1).cells ++ [E])) (ok : (r1v A1 c1).Ok wx) :
    RmSt W1 v R cR wx.heap.size A1 c1 E (wx.alloc (.cells #[.int .i64 (v : Nat), .slice (some R) 1 cR] 65)) :=
  ⟨hb.alloc hb.size _, Blk.new _ _ _, hb.size, own_below own ((Below.refl _ _).alloc (Nat.le_refl _) _) (Nat.le_refl _), ok.keep ((Below.refl _ _).alloc (Nat.le_refl _) _)⟩
theorem rm_put {W1 wx : World} {v g : Nat} {R : Addr} {cR : Nat} {A1 : Option Addr} {c1 : Nat} {E a b : Value} (hb : Below W1.heap.size W1 wx) (BP : Blk wx g 65 #[a, b]) (hle : W1.heap.size ≤ g) (own : wx.ownsRow W1.heap.size 99 5 (.slice (some R) 1 cR) 1 ((r1v A1 c1).cells ++ [E])) (ok : (r1v A1 c1).Ok wx) :
    RmSt W1 v R cR g A1 c1 E ((wx.setCell ⟨g, 0, none⟩ (.int .i64 (v : Nat))).setCell ⟨g, 1, none⟩ (.slice (some R) 1 cR)) := by
  have B1 := BP.set 0 (.int .i64 (v : Nat))
  have B2 := B1.set 1 (.slice (some R) 1 cR)
  refine ⟨below_far (below_far hb hle _ _) hle _ _, by simpa using B2, hle, own_far (own_far own (own_blk_ne own BP (by decide)) _) (own_blk_ne own BP (by decide)) _, (ok.far BP (by decide) _ _).far B1 (by decide) _ _⟩
theorem slT (V : World) {a b c d e : Value} : Sl (V.alloc (.cells #[a, b, c, d, e] 99)) (some ⟨V.heap.size, 0, none⟩) 1 5 [a, b, c, d, e] :=
  ⟨rfl, fun _ => ⟨_, rfl, by simp, fun j u hu => cells_new V 99 [a, b, c, d, e] j u hu⟩⟩
theorem slT1 (V : World) (o : Obj) {a b c d e : Value} : Sl ((V.alloc o).alloc (.cells #[a, b, c, d, e] 99)) (some ⟨V.heap.size + 1, 0, none⟩) 1 5 [a, b, c, d, e] := by
  have := slT (V.alloc o) (a := a) (b := b) (c := c) (d := d) (e := e)
  simpa using this
theorem blk_three3 {V : World} {g : Nat} {a b c a' b' c' : Value} {t : TypeId} (h : Blk V g t #[a, b, c]) : Blk (((V.setCell ⟨g, 0, none⟩ a').setCell ⟨g, 1, none⟩ b').setCell ⟨g, 2, none⟩ c') g t #[a', b', c'] := by
  have := ((h.set 0 a').set 1 b').set 2 c'
  simpa using this
theorem OwnI.tk {base g : Nat} {w w' : World} {A : Option Addr} {c : Nat} {rs : List IRow} (h : OwnI base w A c rs) (hg : Tk g w w') (hb : g < base) : OwnI base w' A c rs := ⟨own_tk h.own hg hb, fun r hr => own_tk (h.rows r hr) hg hb⟩
theorem rof_any (v d : Nat) (ps : List PRow2) (us : List RVal) (X Y : Option Addr) (cx cy : Nat) (w : World) (hX : PtsAt w X ps) (hY : QsAt w Y us) (ok : ROk v d (us.map RVal.q) (ptQ ps)) :
    Calls Tryz.prog 23 #[.slice X ps.length cx, .slice Y us.length cy, .int .i64 (d : Nat)] w (RetL v d ((mons v d).map (sumTo (us.map RVal.q) (ptQ ps) ps.length)) w) := by
  have hnp : (ptQ ps).length = ps.length := by simp [ptQ]
  have hn1 := ok.n1
  have hn2 := ok.n2
  have hv1 := ok.v1
  have hv6 := ok.v6
  have hd24 := ok.d24
  have hfew := ok.few
  have hul : us.length = ps.length := by have := ok.lw; rw [List.length_map, hnp] at this; exact this
  rw [hnp] at hn1 hn2
  obtain ⟨n, hn⟩ : ∃ n, ps.length = n := ⟨_, rfl⟩
  rw [hn] at hn1 hn2 hul ⊢
  rw [hul]
  obtain ⟨ws, hws⟩ : ∃ l, us.map RVal.q = l := ⟨_, rfl⟩
  obtain ⟨xs, hxs⟩ : ∃ l, ptQ ps = l := ⟨_, rfl⟩
  rw [hws, hxs] at ok ⊢
  obtain ⟨qs, hqs⟩ : ∃ l, (mons v d).map (sumTo ws xs n) = l := ⟨_, rfl⟩
  rw [hqs]
  have HN := Lib.hid hn
  have HU := Lib.hid hul
  have HWS := Lib.hid hws
  have HXS := Lib.hid hxs
  have HQS := Lib.hid hqs
  have HX := Lib.hid hX
  have HY := Lib.hid hY
  have HOK := Lib.hid ok
  obtain ⟨vp, hvp⟩ : ∃ k, v = k + 1 := ⟨v - 1, by omega⟩
  have hk0 : 0 < ps.length := by rw [hn]; exact hn1
  obtain ⟨ad, hXe, hc, hQ0⟩ := hX.at hk0
  subst hXe
  have hl0 : ps[0].rs.length = v := by
    have h1 := ok.dim ((ps[0].rs).map RVal.q) (by rw [← hxs]; exact List.mem_map.2 ⟨ps[0], List.getElem_mem _, rfl⟩)
    simpa using h1
  rw [hl0] at hc
  obtain ⟨P0, hP0⟩ : ∃ p, ps[0].A = p := ⟨_, rfl⟩
  obtain ⟨c0, hc0⟩ : ∃ p, ps[0].c = p := ⟨_, rfl⟩
  rw [hP0, hc0] at hc
  have hcz : w.cell? ad = some (.slice P0 v c0) := by simpa [Addr.add] using hc
  have hca := keep_cell ((Below.refl w.heap.size w).alloc (Nat.le_refl _) (.cells #[.int .i64 0, .int .i64 0, .slice none 0 0] 29)) hcz
  have hcb := cell_alloc hcz (.cells #[.int .i64 0, .int .i64 0, .slice none 0 0] 29)
  have HLI : Hid (∀ V, Calls Tryz.prog 50 #[.int .i64 (v : Nat), .int .i64 (d : Nat)] V (RetList v d V)) := Lib.hid (fun V => by
    subst hvp
    exact list_ref vp d (by omega) hd24 (by omega) V)
  have q0 : (0 : Int) < (n : Int) := by omega
  clear hX hY ok hn hul hws hxs hqs hvp hQ0 hl0 hP0 hc0 hk0 hnp
  obtain ⟨W, hW⟩ : ∃ W, (w.alloc (.cells #[.int .i64 0, .int .i64 0, .slice none 0 0] 29)).alloc (.cells #[.int .i64 (v : Nat), .int .i64 (d : Nat), .slice none 0 0] 29) = W := ⟨_, rfl⟩
  have HBW : Hid (Below w.heap.size w W) := Lib.hid (by rw [← hW]; exact ((Below.refl _ _).alloc (Nat.le_refl _) _).alloc (by simp) _)
  have HB6 : Hid (Blk W w.heap.size 29 #[.int .i64 0, .int .i64 0, .slice none 0 0]) := Lib.hid (by rw [← hW]; exact (Blk.new _ _ _).alloc _)
  have HB7 : Hid (Blk W (w.heap.size + 1) 29 #[.int .i64 (v : Nat), .int .i64 (d : Nat), .slice none 0 0]) := Lib.hid (by
    rw [← hW]
    have := Blk.new (w.alloc (.cells #[.int .i64 0, .int .i64 0, .slice none 0 0] 29)) 29 #[.int .i64 (v : Nat), .int .i64 (d : Nat), .slice none 0 0]
    simpa using this)
  have HWW := Lib.hid hW
  clear hW
  go_enter Tryz.func23, Tryz.ntmps23
  go_upto_region 2 with (fail)
  rw [HWW.out]
  have hb7 := HB7.out
  obtain ⟨x0, x1, x2, y0, y1, y2⟩ := hb7.three
  clear hb7 hc hcz hca hcb
  go_wp2_with (fail)
  refine (HLI.out _).mono ?_
  rintro e w3 ⟨L, cL, rows, rfl, hOI, hms, hb3⟩
  obtain ⟨m, hm⟩ : ∃ m, rows.length = m := ⟨_, rfl⟩
  have HM := Lib.hid hm
  have hWs : w.heap.size + 2 = W.heap.size := by rw [← HWW.out]; simp
  have HOI := Lib.hid (hOI.mono (show w.heap.size + 2 ≤ W.heap.size by omega))
  have HMS := Lib.hid hms
  have HST0 : Hid (RoSt w w3 v d w3 0 none 0 [] qs) := Lib.hid ⟨Tk.refl _ _, below_all HBW.out hb3, HB6.out.keep hb3 HB6.out.lt, HB7.out.keep hb3 HB7.out.lt, OwnQ.nil _ _, rfl, rfl⟩
  have HW3 : Hid (Below w.heap.size w w3) := Lib.hid (below_all HBW.out hb3)
  have hs3 := hb3.size
  have HW3s : w.heap.size + 2 ≤ w3.heap.size := by omega
  rw [hm]
  clear hm hOI hms hb3 HLI HB6 HB7 HBW HWW x0 x1 x2 y0 y1 y2 hs3 hWs
  go_wp2
  go_loopw [24] (fun s24 wr => ∃ (k : Nat) (A : Option Addr) (c : Nat) (rs : List RVal), s24 = .int .i64 (k : Nat) ∧ k ≤ m ∧ Hid (RoSt w w3 v d wr k A c rs qs)) (fun s24 _ => m - (intOf s24).toNat)
  case atStart => exact ⟨0, none, 0, [], rfl, Nat.zero_le _, HST0⟩
  case round =>
    clear HST0
    obtain ⟨wo, rfl⟩ : ∃ wo : World, wo = wr := ⟨_, rfl⟩
    obtain ⟨k, A, c, rs, rfl, hk, HST⟩ := hrel
    obtain ⟨x0, x1, x2, y0, y1, y2⟩ := HST.out.b7.three
    by_cases hkm : k = m
    · have e1 : decide ((k : Int) < (m : Int)) = false := decide_eq_false (by omega)
      have e1' : decide (k < m) = false := decide_eq_false (by omega)
      have HKM := Lib.hid hkm
      clear hkm
      obtain ⟨z0, z1, z2, r0, r1, r2⟩ := HST.out.b6.three
      have HB6 := Lib.hid HST.out.b6
      have HRES : Hid (RetL v d qs w (.returned (.agg #[.int .i64 (v : Nat), .int .i64 (d : Nat), .slice A k c])) (((wo.setCell ⟨w.heap.size, 0, none⟩ (.int .i64 (v : Nat))).setCell ⟨w.heap.size, 1, none⟩ (.int .i64 (d : Nat))).setCell ⟨w.heap.size, 2, none⟩ (.slice A k c))) := Lib.hid (by
        have hb := below_far (below_far (below_far HST.out.below (Nat.le_refl _) 0 (.int .i64 (v : Nat))) (Nat.le_refl _) 1 (.int .i64 (d : Nat))) (Nat.le_refl _) 2 (.slice A k c)
        have h0 := HST.out.b6
        have o1 := (HST.out.own.tk (Tk.set w.heap.size wo 0 (.int .i64 (v : Nat))) (by omega) h0 (by decide))
        have h1 := h0.set 0 (.int .i64 (v : Nat))
        have o2 := (o1.tk (Tk.set w.heap.size _ 1 (.int .i64 (d : Nat))) (by omega) h1 (by decide))
        have h2 := h1.set 1 (.int .i64 (d : Nat))
        have o3 := (o2.tk (Tk.set w.heap.size _ 2 (.slice A k c)) (by omega) h2 (by decide))
        refine ⟨A, c, rs, by rw [HST.out.len], o3.mono (by omega), ?_, hb⟩
        rw [HST.out.q, HKM.out, List.take_of_length_le]
        rw [← HQS.out, List.length_map, ← HMS.out, List.length_map, HM.out]
        exact Nat.le_refl _)
      go_wp2
      obtain ⟨p0, p1, p2, _⟩ := (blk_three3 (a' := .int .i64 (v : Nat)) (b' := .int .i64 (d : Nat)) (c' := .slice A k c) HB6.out).three
      exact bodyPost_ret (v := .agg #[.int .i64 (v : Nat), .int .i64 (d : Nat), .slice A k c]) (by simp [results, Tryz.results23, go_sem, p0, p1, p2]) rfl HRES.out
    · have hkl : k < m := by omega
      have e1 : decide ((k : Int) < (m : Int)) = true := decide_eq_true (by omega)
      have e1' : decide (k < m) = true := decide_eq_true hkl
      have q1 : (0 : Int) ≤ (k : Int) := by omega
      have q2 : (k : Int) < (m : Int) := by omega
      have hkr : k < rows.length := by rw [HM.out]; exact hkl
      obtain ⟨al, hAL, hcl, hIN⟩ := (HOI.out.tk HST.out.tk (by omega)).lists hkr
      subst hAL
      obtain ⟨E, hE⟩ : ∃ x, rows[k].A = x := ⟨_, rfl⟩
      obtain ⟨cE, hcE⟩ : ∃ x, rows[k].c = x := ⟨_, rfl⟩
      obtain ⟨mo, hmo⟩ : ∃ x, rows[k].l = x := ⟨_, rfl⟩
      have HMM : Hid (mo ∈ mons v d) := Lib.hid (by rw [← HMS.out, ← hmo]; exact List.mem_map.2 ⟨rows[k], List.getElem_mem _, rfl⟩)
      have hml : mo.length = v := (mons_mem HMM.out).1
      rw [hE, hcE, hmo, hml] at hcl
      rw [hE, hmo] at hIN
      have HIN := Lib.hid hIN
      have HML := Lib.hid hml
      have HMO := Lib.hid hmo
      have HSM : Hid (∀ (V : World) (ad : Addr) (A1 : Option Addr) (c1 : Nat), Sl V (some ad) 1 5 [.bool false, .slice A1 1 c1, .bool false, .slice none 0 0, .slice E v cE] → Calls Tryz.prog 51 #[.int .i64 (v : Nat), .slice (some ad) 1 1] V fun e w' => ∃ (R : Addr) (c : Nat), e = .returned (.agg #[.int .i64 (v : Nat), .slice (some R) 1 c]) ∧ w'.ownsRow V.heap.size 99 5 (.slice (some R) 1 c) 1 ((r1v A1 c1).cells ++ [.slice E v cE]) ∧ Below V.heap.size V w') := Lib.hid (fun V ad A1 c1 hS => by
        have hce : (one1 A1 c1 E cE mo).cells = (r1v A1 c1).cells ++ [.slice E v cE] := by rw [one_cells, HML.out]
        have hcf : (one1 A1 c1 E cE mo).cells = [.bool false, .slice A1 1 c1, .bool false, .slice none 0 0, .slice E v cE] := by rw [hce, r1v_cells]; rfl
        rw [← hcf] at hS
        refine (Sx.rsum1_any (v : Int) (some ad) 1 A1 c1 E cE mo V hS).mono ?_
        rintro e w' ⟨R, c, rfl, hown, hb⟩
        rw [hce] at hown
        obtain ⟨R', hR', _, _⟩ := (Sl.own hown).lies (by omega)
        subst hR'
        exact ⟨R', c, rfl, hown, hb⟩)
      clear hE hcE hmo hml hIN hkm
      go_upto_region 6 with (fail)
      obtain ⟨W1, hW1⟩ : ∃ W1, wo.alloc (.cells #[.bool false, .slice none 0 0, .bool false, .slice none 0 0] 52) = W1 := ⟨_, rfl⟩
      have HB1 : Hid (Below wo.heap.size wo W1) := Lib.hid (by rw [← hW1]; exact (Below.refl _ _).alloc (Nat.le_refl _) _)
      have H10 : Hid (RBlk W1 wo.heap.size rz) := Lib.hid (by rw [← hW1]; exact rz_blk (Blk.new _ _ _))
      have h10lt : wo.heap.size < W1.heap.size := by rw [← hW1]; simp
      obtain ⟨g10, hg10⟩ : ∃ g, wo.heap.size = g := ⟨_, rfl⟩
      have HG10 := Lib.hid hg10
      rw [hW1]
      rw [hg10] at H10 h10lt ⊢
      clear hW1 hg10 x0 x1 x2 y0 y1 y2
      obtain ⟨x0, x1, x2, y0, y1, y2⟩ := (HST.out.b7.keep HB1.out HST.out.b7.lt).three
      have HR1 := Lib.hid r_one
      have hbe : Below W1.heap.size W1 W1.drew := (Below.refl _ _).drew
      go_cut [11] (fun s11 wx => ∃ (g11 : Nat) (R : Addr) (cR : Nat) (A1 : Option Addr) (c1 : Nat), s11 = .pointer (some ⟨g11, 0, none⟩) ∧ Hid (RmSt W1 v R cR g11 A1 c1 (.slice E v cE) wx))
      case first =>
        clear HMM HIN HML HMO hcl H10 HB1 HG10 HST y0 y1 y2 x1 x2
        have x0a := fun o => cell_alloc x0 o
        go_region_with
          (first
            | (go_at_call 52; with_reducible refine Calls.mono (HR1.out _) ?_; rintro e w4 ⟨A1, c1, rfl, hok1, hb4⟩; have HOK1 := Lib.hid hok1; clear hok1; (first | (have BP : Blk w4 W1.heap.size 65 #[.int .i64 0, .slice none 0 0] := blk_call (blk_newd W1 _ _) hb4; obtain ⟨p0, p1, f0, f1⟩ := BP.two; have hbe := below_all (((Below.refl W1.heap.size W1).alloc (Nat.le_refl _) _).drew) hb4) | (have hbe := below_all hbe hb4)); have x0 := keep_cell hbe x0; have x0a := fun o => cell_alloc x0 o; have x0b := fun o o' => cell_alloc (cell_alloc x0 o) o')
            | (go_at_call 51; with_reducible refine Calls.mono (HSM.out _ _ A1 c1 ?hS) ?_; (case hS => first | exact slT _ | exact (slT _).alloc _ | exact slT1 _ _); rintro e w5 ⟨R, cR, rfl, hown5, hb5⟩; have HOW5 := Lib.hid (own_base hown5 (show W1.heap.size ≤ _ by have := hbe.size; simp; omega)); clear hown5; (first | have hb45 := below_all ((Below.refl w4.heap.size w4).alloc (Nat.le_refl _) _) hb5 | have hb45 := below_all (((Below.refl w4.heap.size w4).alloc (Nat.le_refl _) _).alloc (by simp) _) hb5); have HSZ := Lib.hid hbe.size; have hbe := below_all hbe hb45; have HOK1 := Lib.hid (HOK1.out.keep hb45); (first | (have BP : Blk w5 (w4.heap.size + 1) 65 #[.int .i64 0, .slice none 0 0] := blk_call (blk_new1 w4 _ _ _) hb5; obtain ⟨p0, p1, f0, f1⟩ := BP.two) | (have BP := blk_call ((Blk.new w4 65 #[.int .i64 0, .slice none 0 0]).alloc _) hb5; obtain ⟨p0, p1, f0, f1⟩ := BP.two) | (have BP := blk_call (BP.alloc _) hb5; obtain ⟨p0, p1, f0, f1⟩ := BP.two) | skip); clear hb5 hb45))
        all_goals
          go_wp2
          go_meet
          first
            | exact ⟨_, R, cR, A1, c1, rfl, Lib.hid (rm_new hbe HOW5.out HOK1.out)⟩
            | exact ⟨_, R, cR, A1, c1, rfl, Lib.hid (rm_put hbe BP (by first | exact Nat.le_refl _ | exact HSZ.out | exact Nat.le_succ_of_le HSZ.out) HOW5.out HOK1.out)⟩
      obtain ⟨g11, R, cR, A1, c1, rfl, HRM⟩ := hcut
      have HIS : Hid (RiSt wo v g10 R cR g11 (r1v A1 c1) (.slice E v cE) wc rz (sumTo ws xs 0 mo)) := Lib.hid ⟨by have := below_all HB1.out HRM.out.below; rwa [HG10.out] at this, H10.out.keep HRM.out.below, HRM.out.b11, own_base HRM.out.own (by omega), HRM.out.ok, rfl⟩
      have h11 : g10 < g11 := by have := HRM.out.le; omega
      clear HRM HB1 H10 HR1 hbe x0 x1 x2 y0 y1 y2 h10lt
      go_wp2
      go_loopw [37] (fun s37 wr => ∃ (i : Nat) (r : RVal), s37 = .int .i64 (i : Nat) ∧ i ≤ n ∧ Hid (RiSt wo v g10 R cR g11 (r1v A1 c1) (.slice E v cE) wr r (sumTo ws xs i mo))) (fun s37 _ => n - (intOf s37).toNat)
      case atStart => exact ⟨0, rz, rfl, Nat.zero_le _, HIS⟩
      case round =>
        clear HIS
        obtain ⟨wi, rfl⟩ : ∃ wi : World, wi = wr := ⟨_, rfl⟩
        obtain ⟨i, r, rfl, hi, HIT⟩ := hrel
        have hbo : Below wo.heap.size wo wi := by rw [HG10.out]; exact HIT.out.below
        have HBO := Lib.hid hbo
        have HBI : Hid (Below w.heap.size w wi) := Lib.hid (below_all HST.out.below hbo)
        clear hbo
        by_cases hin : i = n
        · have e2 : decide ((i : Int) < (n : Int)) = false := decide_eq_false (by omega)
          have e2' : decide (i < n) = false := decide_eq_false (by omega)
          obtain ⟨i0, hi0, hz0, hz1, hz2⟩ := info_parts rat_info
          have HB7 := Lib.hid (HST.out.b7.keep HBO.out HST.out.b7.lt)
          have HB6 := Lib.hid (HST.out.b6.keep HBO.out HST.out.b6.lt)
          have HOW := Lib.hid (HST.out.own.keep HBO.out)
          obtain ⟨x0, x1, x2, f0, f1, f2⟩ := HB7.out.three
          obtain ⟨z0, z1, z2, z3, _, _, _, _⟩ := HIT.out.b10.b.four
          have hown := HOW.out.own
          rw [HST.out.len] at hown
          have HLT : Hid (∀ g, g < w3.heap.size → some g ≠ (Value.slice A k c).ownBlock) := Lib.hid (fun g hg e => by have := (hown.lt g e.symm).1; omega)
          have HRQ : Hid (r.q = sumTo ws xs n mo) := Lib.hid (by rw [HIT.out.q, hin])
          have HOKR := Lib.hid HIT.out.b10.ok
          have HNC := Lib.hid (cells_new wi 52 r.cells)
          have HAL := Lib.hid (Below.alloc (Below.refl wi.heap.size wi) (Nat.le_refl _) (.cells r.cells.toArray 52))
          have HQK : Hid (qs.take (k + 1) = qs.take k ++ [r.q]) := Lib.hid (by
            have hk2 : (mons v d)[k]? = some mo := by rw [← HMS.out, ← HMO.out]; simp [hkr]
            have hk3 : qs[k]? = some r.q := by rw [← HQS.out, List.getElem?_map, hk2, HRQ.out]; rfl
            rw [List.take_add_one, hk3]; rfl)
          have hki : wi.heap.size < 9000000000000000000 ∨ True := .inr trivial
          have HFI : Hid (∀ (w7 : World) (A' : Option Addr) (c' : Nat), w7.ownsRow w3.heap.size 52 4 (.slice A' (k + 1) c') (k + 1) (rs.flatMap RVal.cells ++ r.cells) → (wi.alloc (.cells r.cells.toArray 52)).grownBy w7 (Value.slice A k c).ownBlock → RoSt w w3 v d (w7.setCell ⟨w.heap.size + 1, 2, none⟩ (.slice A' (k + 1) c')) (k + 1) A' c' (rs ++ [r]) qs) := Lib.hid (fun w7 A' c' h1 h2 => by
            have hg7 : some (w.heap.size + 1) ≠ (Value.slice A k c).ownBlock := HLT.out _ (by omega)
            have hg6 : some w.heap.size ≠ (Value.slice A k c).ownBlock := HLT.out _ (by omega)
            have B7 := (HB7.out.alloc (.cells r.cells.toArray 52)).grown h2 hg7
            have B6 := (HB6.out.alloc (.cells r.cells.toArray 52)).grown h2 hg6
            have hA := HOW.out.keep HAL.out
            have hAown := hA.own
            rw [HST.out.len] at hAown
            have hP : OwnQ w3.heap.size w7 A' c' (rs ++ [r]) := OwnQ.push hA (HOKR.out.keep HAL.out) (by rw [HST.out.len]; exact h2) (by rw [HST.out.len]; exact h1)
            have t1 : Tk (w.heap.size + 1) w3 wi := HST.out.tk.then HBO.out
            have t2 : Tk (w.heap.size + 1) w3 w7 := (t1.then HAL.out).grown hAown (Nat.le_refl _) h2
            have b1 : Below w.heap.size w w7 := Below.grown (below_all HBI.out HAL.out) h2 (by have := (below_all HBI.out HAL.out).size; exact this) (fun j hj => by have := (hAown.lt j hj).1; omega)
            have B7s := B7.set 2 (.slice A' (k + 1) c')
            refine ⟨t2.trans (Tk.set _ _ _ _), below_far b1 (by omega) _ _, B6.far (by simp) _, by simpa using B7s, hP.tk (Tk.set _ _ _ _) (by omega) B7 (by decide), by rw [List.length_append, HST.out.len]; rfl, ?_⟩
            rw [List.map_append, HST.out.q, HQK.out]; rfl)
          clear HQK HRQ HOKR HB6 hki hin
          unfold RVal.cells at HNC HFI
          generalize hs1 : decide (r.q.num < 0) = s1 at *
          generalize hn1' : (dg r.q.num.natAbs).length = n1 at *
          generalize hn2' : (dg (dnz r.q.den)).length = n2 at *
          clear hs1 hn1' hn2'
          generalize r.N = rN at *
          generalize r.D = rD at *
          generalize r.cn = rcn at *
          generalize r.cd = rcd at *
          have hkm2 : m ≤ 1024 := by
            have h1 : m = (mons v d).length := by rw [← HMS.out, List.length_map, HM.out]
            have h2 : (mons v d).length ≤ 1024 := hfew
            omega
          go_wp2_with (first
            | (at_builtin; refine wpList_append_own_at _ rfl _ _ 27 rfl w3.heap.size 52 i0 _ 4 64 Tryz.underlying27 hi0 hz0 hz1 hz2 rfl (by decide) (.slice A k c) k _ rfl (hown.alloc _) ⟨wi.heap.size, 0, none⟩ 1 1 [.bool s1, .slice rN n1 rcn, .bool false, .slice rD n2 rcd] rfl rfl ?c1 ?c2 ?c3 ?c4 ?c5 ?_
               case c1 => exact HNC.out
               case c2 => simp [Value.oneCell']
               case c3 => simp only [maxLen]; omega
               case c4 => omega
               case c5 => simp; have := HBO.out.size; have := HST.out.tk.size; omega
               intro v' w7 hown' hgrow _ hat
               obtain ⟨A', c', hv2, _, _⟩ := Sl.of_own hown'
               subst hv2
               have B7w := (HB7.out.alloc (.cells #[.bool s1, .slice rN n1 rcn, .bool false, .slice rD n2 rcd] 52)).grown hgrow (HLT.out _ (by omega))
               obtain ⟨x0, x1, x2, f0, f1, f2⟩ := B7w.three))
          go_roundw
          case rel => exact ⟨k + 1, A', c', rs ++ [r], by go_num, by omega, Lib.hid (HFI.out w7 A' c' hown' hgrow)⟩
          case measure => simp [intOf]; omega
        · have hil : i < n := by omega
          have e2 : decide ((i : Int) < (n : Int)) = true := decide_eq_true (by omega)
          have e2' : decide (i < n) = true := decide_eq_true hil
          have q3 : (0 : Int) ≤ (i : Int) := by omega
          have q4 : (i : Int) < (n : Int) := by omega
          have hip : i < ps.length := by rw [HN.out]; exact hil
          have hiu : i < us.length := by rw [HU.out]; exact hil
          obtain ⟨ad', hAD, hcp, hQP⟩ := (HX.out.keep HBI.out).at hip
          injection hAD with hAD
          subst hAD
          obtain ⟨az, hAZ, y0, y1, y2, y3⟩ := (HY.out.keep HBI.out).at hiu
          subst hAZ
          obtain ⟨p, hp⟩ : ∃ p, ps[i] = p := ⟨_, rfl⟩
          obtain ⟨u, hu⟩ : ∃ u, us[i] = u := ⟨_, rfl⟩
          have hum : u ∈ us := by rw [← hu]; exact List.getElem_mem _
          obtain ⟨x, hx⟩ : ∃ x, p.rs.map RVal.q = x := ⟨_, rfl⟩
          have hxx : xs[i]? = some x := by rw [← HXS.out, ← hx, ← hp]; simp [ptQ, hip]
          have hxm : x ∈ xs := List.mem_of_getElem? hxx
          have hxd : xs.getD i [] = x := by rw [List.getD_eq_getElem?_getD, hxx]; rfl
          have hwd : ws.getD i 0 = u.q := by rw [← HWS.out, ← hu]; simp [hiu]
          have hxl : x.length = v := HOK.out.dim x hxm
          have hpl : p.rs.length = v := by rw [← hxl, ← hx, List.length_map]
          rw [hp] at hcp hQP
          rw [hu] at y0 y1 y3
          rw [hpl] at hcp
          have hokq : u.Ok wi := (HY.out.ok u hum).keep HBI.out
          have hus : QS u.q := HOK.out.qw u.q (by rw [← HWS.out]; exact List.mem_map.2 ⟨u, hum, rfl⟩)
          have hprs : QS (prTo x mo v) := HOK.out.qp x hxm mo HMM.out v (Nat.le_refl _)
          have htq : tm u.q x mo = u.q * prTo x mo v := by show tmTo u.q x mo mo.length = _; rw [HML.out, tm_pr]
          have hts : QS (u.q * prTo x mo v) := by
            have := HOK.out.qt i (by rw [← HXS.out]; simpa [ptQ] using hip) mo HMM.out
            rwa [hwd, hxd, htq] at this
          have hrs : QS r.q := by rw [HIT.out.q]; exact HOK.out.qs i (by rw [← HXS.out]; simpa [ptQ] using Nat.le_of_lt hip) mo HMM.out
          have HSQ : Hid (sumTo ws xs (i + 1) mo = r.q + u.q * prTo x mo v) := Lib.hid (by
            show sumTo ws xs i mo + tm (ws.getD i 0) (xs.getD i []) mo = _
            rw [hwd, hxd, htq, HIT.out.q])
          have HAT : Hid (∀ V, Below wi.heap.size wi V → Calls Tryz.prog 53 #[.agg #[.int .i64 (v : Nat), .slice (some R) 1 cR], .slice p.A v p.c] V fun e w' => ∃ r2 : RVal, r2.q = prTo x mo v ∧ e = .returned r2.val ∧ r2.Ok w' ∧ Below V.heap.size V w') := Lib.hid (fun V h => by
            have hE : Ints V E mo := (HIN.out.keep HBO.out).keep h
            have := at_q v x p.rs mo p.A p.c R cR (r1v A1 c1) E cE V (hQP.keep h) hx hxl HML.out hv6 (HOK.out.int x hxm) (fun e he => by have := (mons_mem HMM.out).2 e he; omega) (fun j hj => HOK.out.qp x hxm mo HMM.out j hj)
              ((by simpa using Sl.own HIT.out.own : Sl wi (some R) 1 5 ((r1v A1 c1).cells ++ [.slice E v cE])).keep h) rfl (HIT.out.ok.keep h) hE
            exact this.mono fun _ _ h => h.rval)
          have HMU : Hid (∀ (V : World) (r2 : RVal), Below wi.heap.size wi V → r2.Ok V → r2.q = prTo x mo v → Calls Tryz.prog 26 #[u.val, r2.val] V fun e w' => ∃ r3 : RVal, r3.q = u.q * r2.q ∧ e = .returned r3.val ∧ r3.Ok w' ∧ Below V.heap.size V w') := Lib.hid (fun V r2 h h2 h3 => (rmul_q u.q r2.q u.val r2.val V (hokq.keep h).at h2.at hus (by rw [h3]; exact hprs)).mono fun _ _ h => h.rval)
          have HAD : Hid (∀ (V : World) (r2 r3 : RVal), Below wi.heap.size wi V → r3.Ok V → r2.q = prTo x mo v → r3.q = u.q * r2.q → Calls Tryz.prog 25 #[r.val, r3.val] V fun e w' => ∃ r4 : RVal, r4.q = r.q + r3.q ∧ e = .returned r4.val ∧ r4.Ok w' ∧ Below V.heap.size V w') := Lib.hid (fun V r2 r3 h h2 h3 h4 => (radd_q r.q r3.q r.val r3.val V (HIT.out.b10.ok.keep h).at h2.at hrs (by rw [h4, h3]; exact hts)).mono fun _ _ h => h.rval)
          have HNX : Hid (∀ (V : World) (r2 r3 r4 : RVal), Below wi.heap.size wi V → r2.q = prTo x mo v → r3.q = u.q * r2.q → r4.q = r.q + r3.q → r4.Ok V → RiSt wo v g10 R cR g11 (r1v A1 c1) (.slice E v cE) ((((V.setCell ⟨g10, 0, none⟩ (.bool (decide (r4.q.num < 0)))).setCell ⟨g10, 1, none⟩ (.slice r4.N (dg r4.q.num.natAbs).length r4.cn)).setCell ⟨g10, 2, none⟩ (.bool false)).setCell ⟨g10, 3, none⟩ (.slice r4.D (dg (dnz r4.q.den)).length r4.cd)) r4 (sumTo ws xs (i + 1) mo)) := Lib.hid (fun V r2 r3 r4 h h2 h3 h4 h5 => by
            have h10 := HIT.out.b10.keep h
            have h11b := HIT.out.b11.keep h HIT.out.b11.lt
            have ho := own_below HIT.out.own h (Nat.le_refl _)
            have hne : ∀ q : Addr, q.block = g10 → True := fun _ _ => trivial
            have hb0 : Below g10 wo V := HIT.out.below.trans (h.mono (by have := HIT.out.b10.b.lt; omega))
            refine ⟨below_far (below_far (below_far (below_far hb0 (Nat.le_refl _) _ _) (Nat.le_refl _) _ _) (Nat.le_refl _) _ _) (Nat.le_refl _) _ _, RBlk.put h10.b h5, ?_, ?_, ?_, ?_⟩
            · exact (((h11b.far (by simp; omega) _).far (by simp; omega) _).far (by simp; omega) _).far (by simp; omega) _
            · exact own_far (own_far (own_far (own_far ho (own_blk_ne ho h10.b (by decide)) _) (own_blk_ne ho h10.b (by decide)) _) (own_blk_ne ho h10.b (by decide)) _) (own_blk_ne ho h10.b (by decide)) _
            · have B0 := h10.b
              have B1 := B0.set 0 (.bool (decide (r4.q.num < 0)))
              have B2 := B1.set 1 (.slice r4.N (dg r4.q.num.natAbs).length r4.cn)
              have B3 := B2.set 2 (.bool false)
              exact ((((HIT.out.ok.keep h).far B0 (by decide) _ _).far B1 (by decide) _ _).far B2 (by decide) _ _).far B3 (by decide) _ _
            · rw [h4, h3, h2, HSQ.out])
          obtain ⟨t0, t1, t2, t3, f0, f1, f2, f3⟩ := HIT.out.b10.b.four
          obtain ⟨g0, g1, _, _⟩ := HIT.out.b11.two
          have HT := Lib.hid HIT.out.b10
          have hbe : Below wi.heap.size wi wi.drew := (Below.refl _ _).drew
          have hwg : w.heap.size ≤ g10 := by rw [← HG10.out]; exact HST.out.below.size
          have hadl : ad.block ≠ g10 := by
            obtain ⟨a1, e1, h1, _⟩ := HX.out.sl.lies (by omega)
            injection e1 with e1
            subst e1
            omega
          have hazl : az.block ≠ g10 := by
            obtain ⟨a1, e1, h1, _⟩ := HY.out.sl.lies (by omega)
            injection e1 with e1
            subst e1
            omega
          clear hxx hxm hxd hwd hxl hpl hokq hus hprs htq hts hrs hQP hp hu hum hx hin hip hiu
          unfold RVal.val at HMU HAD
          generalize decide (u.q.num < 0) = sk at *
          generalize (dg u.q.num.natAbs).length = nk at *
          generalize (dg (dnz u.q.den)).length = mk at *
          generalize u.N = Nk at *
          generalize u.D = Dk at *
          generalize u.cn = cnk at *
          generalize u.cd = cdk at *
          generalize decide (r.q.num < 0) = st at *
          generalize (dg r.q.num.natAbs).length = nt at *
          generalize (dg (dnz r.q.den)).length = mt at *
          generalize r.N = Nt at *
          generalize r.D = Dt at *
          generalize r.cn = cnt1 at *
          generalize r.cd = cdt at *
          go_upto_region 10 with (fail)
          clear hbe f0 f1 f2 f3
          have BZ : Below wi.heap.size wi wi.drew := (Below.refl _ _).drew
          refine wp_region_held_drew (S := (fun w' => w'.cell? (ad.add i) = some (.slice p.A v p.c) ∧ w'.cell? (az.add (i * 4)) = some (.bool sk) ∧ w'.cell? ⟨(az.add (i * 4)).block, (az.add (i * 4)).off + 1, none⟩ = some (.slice Nk nk cnk) ∧ w'.cell? ⟨(az.add (i * 4)).block, (az.add (i * 4)).off + 2, none⟩ = some (.bool false) ∧ w'.cell? ⟨(az.add (i * 4)).block, (az.add (i * 4)).off + 3, none⟩ = some (.slice Dk mk cdk) ∧ w'.cell? ⟨g11, 0, none⟩ = some (.int .i64 (v : Nat)) ∧ w'.cell? ⟨g11, 1, none⟩ = some (.slice (some R) 1 cR))) (by kernel_rfl) ⟨keep_cell BZ hcp, keep_cell BZ y0, keep_cell BZ y1, keep_cell BZ y2, keep_cell BZ y3, keep_cell BZ g0, keep_cell BZ g1⟩ (fun hHeld => ?_)
          generalize wi.drew = Z at *
          refine wpAnyH_get 1 (some 41) (.slice (some az) n cy) rfl rfl (by kernel_rfl) (by kernel_rfl) (by kernel_rfl) (fun _ _ _ h => h) (by rfl) hHeld ?_ ?_
          · (intro w hSw; (try dsimp only at hSw); go_simp; all_goals (try with_reducible rfl))
          (try simp only [Act.put, List.setIfInBounds_toArray, List.set_cons_zero, List.set_cons_succ])
          refine wpAnyH_get 2 (some 42) (.int .i64 (i : Nat)) rfl rfl (by kernel_rfl) (by kernel_rfl) (by kernel_rfl) (fun _ _ _ h => h) (by rfl) hHeld ?_ ?_
          · (intro w hSw; (try dsimp only at hSw); go_simp; all_goals (try with_reducible rfl))
          (try simp only [Act.put, List.setIfInBounds_toArray, List.set_cons_zero, List.set_cons_succ])
          refine wpAnyH_get 3 (some 43) (.pointer (some (az.add (i * 4)))) rfl rfl (by kernel_rfl) (by kernel_rfl) (by kernel_rfl) (fun _ _ _ h => h) (by rfl) hHeld ?_ ?_
          · (intro w hSw; (try dsimp only at hSw); go_simp; all_goals (try with_reducible rfl))
          (try simp only [Act.put, List.setIfInBounds_toArray, List.set_cons_zero, List.set_cons_succ])
          refine wpAnyH_get 4 (some 44) (.agg #[.bool sk, .slice Nk nk cnk, .bool false, .slice Dk mk cdk]) rfl rfl (by kernel_rfl) (by kernel_rfl) (by kernel_rfl) (fun _ _ _ h => h) (by rfl) hHeld ?_ ?_
          · (intro w hSw; (try dsimp only at hSw); go_simp; all_goals (try with_reducible rfl))
          (try simp only [Act.put, List.setIfInBounds_toArray, List.set_cons_zero, List.set_cons_succ])
          refine wpAnyH_get 5 (some 45) (.agg #[.int .i64 (v : Nat), .slice (some R) 1 cR]) rfl rfl (by kernel_rfl) (by kernel_rfl) (by kernel_rfl) (fun _ _ _ h => h) (by rfl) hHeld ?_ ?_
          · (intro w hSw; (try dsimp only at hSw); go_simp; all_goals (try with_reducible rfl))
          (try simp only [Act.put, List.setIfInBounds_toArray, List.set_cons_zero, List.set_cons_succ])
          refine wpAnyH_get 6 (some 46) (.slice (some ad) n cx) rfl rfl (by kernel_rfl) (by kernel_rfl) (by kernel_rfl) (fun _ _ _ h => h) (by rfl) hHeld ?_ ?_
          · (intro w hSw; (try dsimp only at hSw); go_simp; all_goals (try with_reducible rfl))
          (try simp only [Act.put, List.setIfInBounds_toArray, List.set_cons_zero, List.set_cons_succ])
          refine wpAnyH_get 7 (some 47) (.int .i64 (i : Nat)) rfl rfl (by kernel_rfl) (by kernel_rfl) (by kernel_rfl) (fun _ _ _ h => h) (by rfl) hHeld ?_ ?_
          · (intro w hSw; (try dsimp only at hSw); go_simp; all_goals (try with_reducible rfl))
          (try simp only [Act.put, List.setIfInBounds_toArray, List.set_cons_zero, List.set_cons_succ])
          refine wpAnyH_get 8 (some 48) (.pointer (some (ad.add i))) rfl rfl (by kernel_rfl) (by kernel_rfl) (by kernel_rfl) (fun _ _ _ h => h) (by rfl) hHeld ?_ ?_
          · (intro w hSw; (try dsimp only at hSw); go_simp; all_goals (try with_reducible rfl))
          (try simp only [Act.put, List.setIfInBounds_toArray, List.set_cons_zero, List.set_cons_succ])
          refine wpAnyH_get 9 (some 49) (.slice p.A v p.c) rfl rfl (by kernel_rfl) (by kernel_rfl) (by kernel_rfl) (fun _ _ _ h => h) (by rfl) hHeld ?_ ?_
          · (intro w hSw; (try dsimp only at hSw); go_simp; all_goals (try with_reducible rfl))
          (try simp only [Act.put, List.setIfInBounds_toArray, List.set_cons_zero, List.set_cons_succ])
          refine wpAnyH_ready (rs := [0, 10]) (by kernel_rfl) (by simp) ?_
          refine AllReadyH.cons rfl (fun K hK => ?_) (AllReadyH.cons rfl (fun K hK => ?_) AllReadyH.nil)
          · have k0 := keep_cell BZ t0
            have k1 := keep_cell BZ t1
            have k2 := keep_cell BZ t2
            have k3 := keep_cell BZ t3
            go_simp
            obtain ⟨Z1, rfl⟩ : ∃ x : World, x = Z := ⟨_, rfl⟩
            have BZ1 := BZ
            refine hK.out _ _ ⟨keep_cell BZ1 hcp, keep_cell BZ1 y0, keep_cell BZ1 y1, keep_cell BZ1 y2, keep_cell BZ1 y3, keep_cell BZ1 g0, keep_cell BZ1 g1⟩ (fun hHeld => ?_)
            clear hK K k0 k1 k2 k3
            (try simp only [Act.put, List.setIfInBounds_toArray, List.set_cons_zero, List.set_cons_succ])
            refine wpAnyH_ready (rs := [10]) (by kernel_rfl) (by simp) ?_
            refine AllReadyH.cons rfl (fun K hK => ?_) AllReadyH.nil
            go_simp
            refine (HAT.out _ BZ1).mono ?_
            rintro e Z2 ⟨r2, hq2, rfl, hok2, hb⟩
            have HQ2 := Lib.hid hq2
            have HOK2 := Lib.hid hok2
            clear hq2 hok2
            have BZ2 := below_all BZ1 hb
            (try unfold RVal.val)
            (try go_simp)
            refine hK.out _ _ ⟨keep_cell BZ2 hcp, keep_cell BZ2 y0, keep_cell BZ2 y1, keep_cell BZ2 y2, keep_cell BZ2 y3, keep_cell BZ2 g0, keep_cell BZ2 g1⟩ (fun hHeld => ?_)
            clear hK K hb
            (try simp only [Act.put, List.setIfInBounds_toArray, List.set_cons_zero, List.set_cons_succ])
            refine wpAnyH_ready (rs := [11]) (by kernel_rfl) (by simp) ?_
            refine AllReadyH.cons rfl (fun K hK => ?_) AllReadyH.nil
            go_simp
            refine (HMU.out _ r2 BZ2 HOK2.out HQ2.out).mono ?_
            rintro e Z3 ⟨r3, hq3, rfl, hok3, hb⟩
            have HQ3 := Lib.hid hq3
            have HOK3 := Lib.hid hok3
            clear hq3 hok3
            have BZ3 := below_all BZ2 hb
            (try unfold RVal.val)
            (try go_simp)
            refine hK.out _ _ ⟨keep_cell BZ3 hcp, keep_cell BZ3 y0, keep_cell BZ3 y1, keep_cell BZ3 y2, keep_cell BZ3 y3, keep_cell BZ3 g0, keep_cell BZ3 g1⟩ (fun hHeld => ?_)
            clear hK K hb
            (try simp only [Act.put, List.setIfInBounds_toArray, List.set_cons_zero, List.set_cons_succ])
            refine wpAnyH_ready (rs := [12]) (by kernel_rfl) (by simp) ?_
            refine AllReadyH.cons rfl (fun K hK => ?_) AllReadyH.nil
            go_simp
            refine (HAD.out _ r2 r3 BZ3 HOK3.out HQ2.out HQ3.out).mono ?_
            rintro e Z4 ⟨r4, hq4, rfl, hok4, hb⟩
            have HQ4 := Lib.hid hq4
            have HOK4 := Lib.hid hok4
            clear hq4 hok4
            have BZ4 := below_all BZ3 hb
            (try unfold RVal.val)
            (try go_simp)
            refine hK.out _ _ ⟨keep_cell BZ4 hcp, keep_cell BZ4 y0, keep_cell BZ4 y1, keep_cell BZ4 y2, keep_cell BZ4 y3, keep_cell BZ4 g0, keep_cell BZ4 g1⟩ (fun hHeld => ?_)
            clear hK K hb
            (try simp only [Act.put, List.setIfInBounds_toArray, List.set_cons_zero, List.set_cons_succ])
            refine wpAnyH_ready (rs := [13]) (by kernel_rfl) (by simp) ?_
            refine AllReadyH.cons rfl (fun K hK => ?_) AllReadyH.nil
            have Y := HT.out.keep BZ4
            obtain ⟨k0, k1, k2, k3, f0, f1, f2, f3⟩ := Y.b.four
            have HNEW := Lib.hid (HNX.out Z4 r2 r3 r4 BZ4 HQ2.out HQ3.out HQ4.out HOK4.out)
            clear Y
            go_simp
            refine hK.out _ _ ⟨cell_four (keep_cell BZ4 hcp) (by simp only [add_block]; exact hadl), cell_four (keep_cell BZ4 y0) (by simp only [add_block]; exact hazl), cell_four (keep_cell BZ4 y1) (by simp only [add_block]; exact hazl), cell_four (keep_cell BZ4 y2) (by simp only [add_block]; exact hazl), cell_four (keep_cell BZ4 y3) (by simp only [add_block]; exact hazl), cell_four (keep_cell BZ4 g0) (by simp; omega), cell_four (keep_cell BZ4 g1) (by simp; omega)⟩ (fun hHeld => ?_)
            clear hK K k0 k1 k2 k3 f0 f1 f2 f3
            (try simp only [Act.put, List.setIfInBounds_toArray, List.set_cons_zero, List.set_cons_succ])
            refine wpAnyH_done (by kernel_rfl) ?_ _
            go_wp2
            go_roundw
            case rel => exact ⟨i + 1, r4, by go_num, by omega, HNEW⟩
            case measure => simp [intOf]; omega
          · go_simp
            refine (HAT.out _ BZ).mono ?_
            rintro e Z6 ⟨r2, hq2, rfl, hok2, hb⟩
            have HQ2 := Lib.hid hq2
            have HOK2 := Lib.hid hok2
            clear hq2 hok2
            have BZ6 := below_all BZ hb
            (try unfold RVal.val)
            (try go_simp)
            refine hK.out _ _ ⟨keep_cell BZ6 hcp, keep_cell BZ6 y0, keep_cell BZ6 y1, keep_cell BZ6 y2, keep_cell BZ6 y3, keep_cell BZ6 g0, keep_cell BZ6 g1⟩ (fun hHeld => ?_)
            clear hK K hb
            (try simp only [Act.put, List.setIfInBounds_toArray, List.set_cons_zero, List.set_cons_succ])
            refine wpAnyH_ready (rs := [0, 11]) (by kernel_rfl) (by simp) ?_
            refine AllReadyH.cons rfl (fun K hK => ?_) (AllReadyH.cons rfl (fun K hK => ?_) AllReadyH.nil)
            · have k0 := keep_cell BZ6 t0
              have k1 := keep_cell BZ6 t1
              have k2 := keep_cell BZ6 t2
              have k3 := keep_cell BZ6 t3
              go_simp
              obtain ⟨Z7, rfl⟩ : ∃ x : World, x = Z6 := ⟨_, rfl⟩
              have BZ7 := BZ6
              refine hK.out _ _ ⟨keep_cell BZ7 hcp, keep_cell BZ7 y0, keep_cell BZ7 y1, keep_cell BZ7 y2, keep_cell BZ7 y3, keep_cell BZ7 g0, keep_cell BZ7 g1⟩ (fun hHeld => ?_)
              clear hK K k0 k1 k2 k3
              (try simp only [Act.put, List.setIfInBounds_toArray, List.set_cons_zero, List.set_cons_succ])
              refine wpAnyH_ready (rs := [11]) (by kernel_rfl) (by simp) ?_
              refine AllReadyH.cons rfl (fun K hK => ?_) AllReadyH.nil
              go_simp
              refine (HMU.out _ r2 BZ7 HOK2.out HQ2.out).mono ?_
              rintro e Z8 ⟨r3, hq3, rfl, hok3, hb⟩
              have HQ3 := Lib.hid hq3
              have HOK3 := Lib.hid hok3
              clear hq3 hok3
              have BZ8 := below_all BZ7 hb
              (try unfold RVal.val)
              (try go_simp)
              refine hK.out _ _ ⟨keep_cell BZ8 hcp, keep_cell BZ8 y0, keep_cell BZ8 y1, keep_cell BZ8 y2, keep_cell BZ8 y3, keep_cell BZ8 g0, keep_cell BZ8 g1⟩ (fun hHeld => ?_)
              clear hK K hb
              (try simp only [Act.put, List.setIfInBounds_toArray, List.set_cons_zero, List.set_cons_succ])
              refine wpAnyH_ready (rs := [12]) (by kernel_rfl) (by simp) ?_
              refine AllReadyH.cons rfl (fun K hK => ?_) AllReadyH.nil
              go_simp
              refine (HAD.out _ r2 r3 BZ8 HOK3.out HQ2.out HQ3.out).mono ?_
              rintro e Z9 ⟨r4, hq4, rfl, hok4, hb⟩
              have HQ4 := Lib.hid hq4
              have HOK4 := Lib.hid hok4
              clear hq4 hok4
              have BZ9 := below_all BZ8 hb
              (try unfold RVal.val)
              (try go_simp)
              refine hK.out _ _ ⟨keep_cell BZ9 hcp, keep_cell BZ9 y0, keep_cell BZ9 y1, keep_cell BZ9 y2, keep_cell BZ9 y3, keep_cell BZ9 g0, keep_cell BZ9 g1⟩ (fun hHeld => ?_)
              clear hK K hb
              (try simp only [Act.put, List.setIfInBounds_toArray, List.set_cons_zero, List.set_cons_succ])
              refine wpAnyH_ready (rs := [13]) (by kernel_rfl) (by simp) ?_
              refine AllReadyH.cons rfl (fun K hK => ?_) AllReadyH.nil
              have Y := HT.out.keep BZ9
              obtain ⟨k0, k1, k2, k3, f0, f1, f2, f3⟩ := Y.b.four
              have HNEW := Lib.hid (HNX.out Z9 r2 r3 r4 BZ9 HQ2.out HQ3.out HQ4.out HOK4.out)
              clear Y
              go_simp
              refine hK.out _ _ ⟨cell_four (keep_cell BZ9 hcp) (by simp only [add_block]; exact hadl), cell_four (keep_cell BZ9 y0) (by simp only [add_block]; exact hazl), cell_four (keep_cell BZ9 y1) (by simp only [add_block]; exact hazl), cell_four (keep_cell BZ9 y2) (by simp only [add_block]; exact hazl), cell_four (keep_cell BZ9 y3) (by simp only [add_block]; exact hazl), cell_four (keep_cell BZ9 g0) (by simp; omega), cell_four (keep_cell BZ9 g1) (by simp; omega)⟩ (fun hHeld => ?_)
              clear hK K k0 k1 k2 k3 f0 f1 f2 f3
              (try simp only [Act.put, List.setIfInBounds_toArray, List.set_cons_zero, List.set_cons_succ])
              refine wpAnyH_done (by kernel_rfl) ?_ _
              go_wp2
              go_roundw
              case rel => exact ⟨i + 1, r4, by go_num, by omega, HNEW⟩
              case measure => simp [intOf]; omega
            · go_simp
              refine (HMU.out _ r2 BZ6 HOK2.out HQ2.out).mono ?_
              rintro e Z11 ⟨r3, hq3, rfl, hok3, hb⟩
              have HQ3 := Lib.hid hq3
              have HOK3 := Lib.hid hok3
              clear hq3 hok3
              have BZ11 := below_all BZ6 hb
              (try unfold RVal.val)
              (try go_simp)
              refine hK.out _ _ ⟨keep_cell BZ11 hcp, keep_cell BZ11 y0, keep_cell BZ11 y1, keep_cell BZ11 y2, keep_cell BZ11 y3, keep_cell BZ11 g0, keep_cell BZ11 g1⟩ (fun hHeld => ?_)
              clear hK K hb
              (try simp only [Act.put, List.setIfInBounds_toArray, List.set_cons_zero, List.set_cons_succ])
              refine wpAnyH_ready (rs := [0]) (by kernel_rfl) (by simp) ?_
              refine AllReadyH.cons rfl (fun K hK => ?_) AllReadyH.nil
              have k0 := keep_cell BZ11 t0
              have k1 := keep_cell BZ11 t1
              have k2 := keep_cell BZ11 t2
              have k3 := keep_cell BZ11 t3
              go_simp
              obtain ⟨Z12, rfl⟩ : ∃ x : World, x = Z11 := ⟨_, rfl⟩
              have BZ12 := BZ11
              refine hK.out _ _ ⟨keep_cell BZ12 hcp, keep_cell BZ12 y0, keep_cell BZ12 y1, keep_cell BZ12 y2, keep_cell BZ12 y3, keep_cell BZ12 g0, keep_cell BZ12 g1⟩ (fun hHeld => ?_)
              clear hK K k0 k1 k2 k3
              (try simp only [Act.put, List.setIfInBounds_toArray, List.set_cons_zero, List.set_cons_succ])
              refine wpAnyH_ready (rs := [12]) (by kernel_rfl) (by simp) ?_
              refine AllReadyH.cons rfl (fun K hK => ?_) AllReadyH.nil
              go_simp
              refine (HAD.out _ r2 r3 BZ12 HOK3.out HQ2.out HQ3.out).mono ?_
              rintro e Z13 ⟨r4, hq4, rfl, hok4, hb⟩
              have HQ4 := Lib.hid hq4
              have HOK4 := Lib.hid hok4
              clear hq4 hok4
              have BZ13 := below_all BZ12 hb
              (try unfold RVal.val)
              (try go_simp)
              refine hK.out _ _ ⟨keep_cell BZ13 hcp, keep_cell BZ13 y0, keep_cell BZ13 y1, keep_cell BZ13 y2, keep_cell BZ13 y3, keep_cell BZ13 g0, keep_cell BZ13 g1⟩ (fun hHeld => ?_)
              clear hK K hb
              (try simp only [Act.put, List.setIfInBounds_toArray, List.set_cons_zero, List.set_cons_succ])
              refine wpAnyH_ready (rs := [13]) (by kernel_rfl) (by simp) ?_
              refine AllReadyH.cons rfl (fun K hK => ?_) AllReadyH.nil
              have Y := HT.out.keep BZ13
              obtain ⟨k0, k1, k2, k3, f0, f1, f2, f3⟩ := Y.b.four
              have HNEW := Lib.hid (HNX.out Z13 r2 r3 r4 BZ13 HQ2.out HQ3.out HQ4.out HOK4.out)
              clear Y
              go_simp
              refine hK.out _ _ ⟨cell_four (keep_cell BZ13 hcp) (by simp only [add_block]; exact hadl), cell_four (keep_cell BZ13 y0) (by simp only [add_block]; exact hazl), cell_four (keep_cell BZ13 y1) (by simp only [add_block]; exact hazl), cell_four (keep_cell BZ13 y2) (by simp only [add_block]; exact hazl), cell_four (keep_cell BZ13 y3) (by simp only [add_block]; exact hazl), cell_four (keep_cell BZ13 g0) (by simp; omega), cell_four (keep_cell BZ13 g1) (by simp; omega)⟩ (fun hHeld => ?_)
              clear hK K k0 k1 k2 k3 f0 f1 f2 f3
              (try simp only [Act.put, List.setIfInBounds_toArray, List.set_cons_zero, List.set_cons_succ])
              refine wpAnyH_done (by kernel_rfl) ?_ _
              go_wp2
              go_roundw
              case rel => exact ⟨i + 1, r4, by go_num, by omega, HNEW⟩
              case measure => simp [intOf]; omega
end Go.Proofs.Tg
end
