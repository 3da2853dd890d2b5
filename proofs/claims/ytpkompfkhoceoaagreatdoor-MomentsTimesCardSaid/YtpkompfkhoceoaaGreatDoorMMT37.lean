/- Parts of the proof: TI3. -/
import Derived.Test.YtpkompfkhoceoaaGreatDoorMMT35
import Derived.Test.YtpkompfkhoceoaaGreatDoorMMT36
section
/- The statement MomentsTimes. Printed by mk_ti3.py. -/
namespace Go.Proofs.Tg
open Go.RowKit Go.Gr Go.Bn Go.Rq Go.Mo Go.Rs Go.Mm Go.Ev
open Go.Proofs.Tg.Fi (QsAt Txts vq txts_of write_b known_any PT)
set_option maxHeartbeats 16000000
set_option maxRecDepth 100000
theorem polyOk_le {v d e : Nat} {l : List (Rat × List Int)} (h : PolyOk v d l) (hde : d ≤ e) : PolyOk v e l := ⟨h.desc, fun t ht => ⟨(h.mem t ht).1, mons_le (h.mem t ht).2 hde⟩, h.few⟩
theorem PolyAt.le {w : World} {v d e tn : Nat} {T : Option Addr} {tv : List TV} {l : List (Rat × List Int)} (h : PolyAt w v d T tn tv l) (hde : d ≤ e) : PolyAt w v e T tn tv l := ⟨h.terms, h.pl, h.len, polyOk_le h.ok hde, h.sz⟩
theorem wr_poly (v d : Nat) (out : List TQ) (R : Option Addr) (c no : Nat) (w : World) (hQ : TQs w R out) (hno : out.length = no) (hok : PolyOk v d (out.map TQ.qe)) (hs : ∀ t ∈ out.map TQ.qe, Sh t.1 ∧ t.1 ≠ 0 ∧ (qtx t.1).size ≤ 19) (hv : v ≤ 6) :
    Calls Tryz.prog 30 #[.agg #[.int .i64 (v : Nat), .slice R no c]] w fun e w' => ∃ T cT tv, e = .returned (.agg #[.int .i64 (v : Nat), .slice T no cT]) ∧ PolyAt w' v d T no tv (out.map TQ.qe) ∧ Below w.heap.size w w' := by
  subst hno
  have hfew : out.length ≤ 4096 := by have := hok.few; rwa [List.length_map] at this
  have h := twrite_any (v : Nat) out R c w hQ (fun t ht => ⟨(hs t.qe (qe_mem ht)).1, (hs t.qe (qe_mem ht)).2.1⟩) hfew (fun t ht => by
    have := (mons_mem (hok.mem t.qe (qe_mem ht)).2).1
    have e : t.el.length = v := this
    omega)
  refine h.mono ?_
  rintro e w' ⟨hb, A, c', tv, rfl, hO, hp⟩
  have hl : tv.length = out.length := by have := congrArg List.length hp; simpa using this
  refine ⟨A, c', tv, by rw [hl], ⟨hO.terms, ?_, List.length_map _, hok, fun t ht => (hs t ht).2.2⟩, hb⟩
  rw [hp]; unfold wrT; rw [List.map_map]; rfl
theorem wl_nm {us : List RVal} (h4 : us.length ≤ 4) (hw : ∀ r ∈ us, Weight r) : ∃ D, (0 < D ∧ D ≤ 12) ∧ Rs.Nm D (wl (us.map RVal.q) us.length) 279 := by
  obtain ⟨D, h0, h12, hn⟩ := nm_coefs (l := wl (us.map RVal.q) us.length) (by unfold wl; rw [List.length_map, List.length_range]; exact h4) (fun t ht => by
    obtain ⟨i, hi, rfl⟩ := List.mem_map.1 ht
    have hi2 := List.mem_range.1 hi
    obtain ⟨n, d, h1, h2, h3, h4, e⟩ := hw us[i] (List.getElem_mem hi2)
    refine ⟨n, d, by omega, h3, h4, ?_⟩
    rw [← e, List.getD_eq_getElem?_getD, List.getElem?_map, List.getElem?_eq_getElem hi2]; rfl)
  exact ⟨D, ⟨h0, h12⟩, hn.mono (by split <;> omega)⟩
theorem ro5_any {v n : Nat} {ps : List PRow2} {us : List RVal} (ok : PtOk v (us.map RVal.q) (ptQ ps)) (h1 : 1 ≤ v) (h2 : v ≤ 2) (hn : ps.length = n) (hu : us.length = n) (X Y : Option Addr) (cx cy : Nat) (V : World) (hX : PtsAt V X ps) (hY : QsAt V Y us) :
    Calls Tryz.prog 23 #[.slice X n cx, .slice Y n cy, .int .i64 5] V fun e w' => ∃ A c rs, e = .returned (.agg #[.int .i64 (v : Nat), .int .i64 5, .slice A (cnt v 5) c]) ∧ QsAt w' A rs ∧ rs.length = cnt v 5 ∧ rs.map RVal.q = (mons v 5).map (sumTo (us.map RVal.q) (ptQ ps) n) ∧ Below V.heap.size V w' := by
  have h := rof_any v 5 ps us X Y cx cy V hX hY (rOk5 ok h1 h2)
  rw [hn, hu] at h
  refine h.mono ?_
  rintro e w' ⟨A, c, rs, e1, hO, hq, hb⟩
  have hl : rs.length = cnt v 5 := by
    have := congrArg List.length hq
    rw [List.length_map, List.length_map] at this
    exact this
  rw [hl] at e1
  exact ⟨A, c, rs, e1, Fi.OwnQ.qs hO, hl, hq, hb⟩
theorem law_times (A : Option Addr) (c : Nat) (l : List Int) (w : World) (hA : Ints w A l) (hc : l.length ≤ c) (hx : ∀ x ∈ l, -9223372036854775808 ≤ x ∧ x < 9223372036854775808) (hn : l.length < 9223372036854775808) (hT : PT w) (hTab : Tab w) :
    Calls Tryz.prog 7 #[.slice A l.length c] w fun e w' => e = .returned (.bool true) ∧ Below w.heap.size w w' := by
  have HNEW := Lib.hid (new_any A c l w hA hc hx hn)
  have HN2 : Hid (∀ V g, TapeAt V g → Calls Tryz.prog 16 #[.pointer (some ⟨g, 0, none⟩), .int .i64 2] V (RetT g (fun v _ => ∃ k : Nat, k < 2 ∧ v = .int .i64 (k : Nat)) V)) := Lib.hid (fun V g h => next_any g 2 V h (by omega) (by omega))
  have HPTS : Hid (∀ V g (v : Nat), TapeAt V g → v ≤ 10 → Calls Tryz.prog 17 #[.pointer (some ⟨g, 0, none⟩), .int .i64 (v : Nat)] V (RetPts v g V)) := Lib.hid (fun V g v h hv => points_any g v V h hv)
  have HPOL : Hid (∀ V g (v d : Nat), TapeAt V g → 1 ≤ v → v ≤ 2 → d ≤ 3 → Calls Tryz.prog 28 #[.pointer (some ⟨g, 0, none⟩), .int .i64 (v : Nat), .int .i64 (d : Nat), .int .i64 3] V (RetT g (fun x w' => ∃ R c out D, x = .agg #[.int .i64 (v : Nat), .slice R (List.length out) c] ∧ TQs w' R out ∧ out.length ≤ 3 ∧ Apart g R out ∧ DrawnP v d (out.map TQ.qe) D) V)) := Lib.hid (fun V g v d h h1 h2 h3 => by
    obtain ⟨vp, rfl⟩ : ∃ vp, v = vp + 1 := ⟨v - 1, by omega⟩
    have hc1 : cnt (vp + 1) d ≤ 21 := Nat.le_trans (cnt_le_d _ d 5 (by omega)) (cnt_two (vp + 1) (by omega) h2)
    have hc2 : 1 ≤ cnt (vp + 1) d := by
      have h4 := cnt_le_d (vp + 1) 0 d (Nat.zero_le _)
      rw [cnt_d0] at h4
      exact h4
    refine (tpoly_any g vp d 3 V h (by omega) (by omega) (by omega) hc2 (by omega)).mono ?_
    rintro e w' ⟨x, rfl, ⟨R, c, out, rfl, hQ, _, hl, ha, ts, hts, htm, ho⟩, h5, h6⟩
    obtain ⟨D, hD⟩ := drawn_of hts htm ho (by rw [List.length_map]; omega)
    exact ⟨_, rfl, ⟨R, c, out, D, rfl, hQ, hl, ha, hD⟩, h5, h6⟩)
  have HPT := Lib.hid hT
  have HTA := Lib.hid hTab
  clear hA hc hx hn hT hTab
  go_enter Tryz.func7, Tryz.ntmps7
  go_wp2_with (fail)
  refine HNEW.out.mono ?_
  rintro e w1 ⟨g, rfl, hgw, hT1, hb1⟩
  have HT1 := Lib.hid hT1
  have HB1 := Lib.hid hb1
  clear hT1 hb1
  go_wp2_with (fail)
  refine (HN2.out _ _ HT1.out).mono ?_
  rintro e w2 ⟨_, rfl, ⟨k0, hk2, rfl⟩, hT2, ht2⟩
  have HT2 := Lib.hid hT2
  have HBT2 : Hid (Below w.heap.size w w2) := Lib.hid (Tk.below HB1.out ht2 hgw)
  clear hT2 ht2
  obtain ⟨v, hv⟩ : ∃ v : Nat, 1 + k0 = v := ⟨_, rfl⟩
  have hvI : (1 : Int) + (k0 : Int) = (v : Int) := by omega
  have hv1 : 1 ≤ v := by omega
  have hv2 : v ≤ 2 := by omega
  go_upto_region 3 with (fail)
  try rw [hvI]
  clear hvI hv hk2 HN2 HNEW HT1 HB1
  go_wp2_with (fail)
  refine (HPTS.out _ _ v HT2.out (by omega)).mono ?_
  rintro e w3 ⟨X1, cx1, ps1, Y1, cy1, us1, rfl, h11, h14, hP⟩
  have HP1 := Lib.hid hP
  have HBT3 : Hid (Below w.heap.size w w3) := Lib.hid (Tk.below HBT2.out hP.tk hgw)
  have hok : PtOk v (us1.map RVal.q) (ptQ ps1) := hP.ptOk h11 h14
  obtain ⟨n, hn⟩ : ∃ x, ps1.length = x := ⟨_, rfl⟩
  have hu : us1.length = n := by rw [← hn]; exact hP.lenw
  obtain ⟨DW, hDW, hwn⟩ := wl_nm (us := us1) (by omega) hP.wt
  obtain ⟨f, hf⟩ : ∃ f, sumTo (us1.map RVal.q) (ptQ ps1) n = f := ⟨_, rfl⟩
  have hxn : (ptQ ps1).length = n := by unfold ptQ; rw [List.length_map]; exact hn
  have HFS : Hid (∀ m ∈ mons v 5, Sh (f m)) := Lib.hid (fun m hm => by
    have := val_sh hok hm
    rw [hxn, hf] at this
    exact this)
  have HOF : Hid (∀ V, PtsAt V X1 ps1 → QsAt V Y1 us1 → Calls Tryz.prog 23 #[.slice X1 n cx1, .slice Y1 n cy1, .int .i64 5] V fun e w' => ∃ A c rs, e = .returned (.agg #[.int .i64 (v : Nat), .int .i64 5, .slice A (cnt v 5) c]) ∧ QsAt w' A rs ∧ rs.length = cnt v 5 ∧ rs.map RVal.q = (mons v 5).map f ∧ Below V.heap.size V w') := Lib.hid (fun V h1 h2 => by
    rw [← hf]
    exact ro5_any hok hv1 hv2 hn hu X1 Y1 cx1 cy1 V h1 h2)
  have HTI : Hid (∀ (G P H : List (Rat × List Int)) DG DP, DrawnP v 2 G DG → DrawnP v 3 P DP → Eqv v H (prL G P) → (∀ t ∈ H, t.2 ∈ mons v 5) → ∃ dg, TiOk v f G P H dg) := Lib.hid (fun G P H DG DP hG hP hH hm => by
    rw [hu] at hwn
    have := ti_ok hok hDW hwn hG hP hH hm
    rw [hf] at this
    exact this)
  have hcn := cnt_two v hv1 hv2
  obtain ⟨N, hN⟩ : ∃ x, cnt v 5 = x := ⟨_, rfl⟩
  rw [hN] at HOF hcn
  have HN5 := Lib.hid hN
  rw [hn, hu]
  clear hP h11 h14 hok hn hu hDW hwn hf hxn hN HPTS
  go_wp2_with (fail)
  refine (HOF.out _ HP1.out.xs.pts (Fi.OwnQ.qs HP1.out.ys)).mono ?_
  rintro e w4 ⟨AL, cL, rs, rfl, hQ4, hrl, hrq, hb4⟩
  have HQ4 := Lib.hid hQ4
  have HRQ := Lib.hid hrq
  have HRL := Lib.hid hrl
  have HT4 := Lib.hid (HP1.out.tape.keep hb4)
  have HBT4 : Hid (Below w.heap.size w w4) := Lib.hid (below_all HBT3.out hb4)
  have HWR : Hid (∀ V, Below w4.heap.size w4 V → Calls Tryz.prog 24 #[.agg #[.int .i64 (v : Nat), .int .i64 5, .slice AL N cL]] V fun e w' => ∃ gB, e = .returned (.agg #[.int .i64 (v : Nat), .int .i64 5, .slice (some ⟨gB, 0, none⟩) N N]) ∧ Blk w' gB 9 (((mons v 5).map f).map vq).toArray ∧ V.heap.size ≤ gB ∧ Below V.heap.size V w') := Lib.hid (fun V hb => by
    have h := write_b v 5 AL cL rs V (HQ4.out.keep hb) (fun r hr => by
      have h1 : r.q ∈ (mons v 5).map f := by rw [← HRQ.out]; exact List.mem_map.2 ⟨r, hr, rfl⟩
      obtain ⟨m, hm, e⟩ := List.mem_map.1 h1
      rw [← e]; exact HFS.out m hm) (by have := HRL.out; omega)
    rw [HRL.out, HRQ.out] at h
    exact h)
  clear hQ4 hrl hrq hb4 HOF HP1 HT2 HBT2 HBT3
  go_wp2_with (fail)
  refine (HWR.out _ (Below.refl _ _)).mono ?_
  rintro e w5 ⟨gB, rfl, hB5, hgB, hb5⟩
  have HB5 := Lib.hid hB5
  have HT5 := Lib.hid (HT4.out.keep hb5)
  have HBT5 : Hid (Below w.heap.size w w5) := Lib.hid (below_all HBT4.out hb5)
  have hgg : g < gB := Nat.lt_of_lt_of_le HT4.out.lt hgB
  clear hB5 hb5 hgB HWR HQ4 HRQ HRL HT4 HBT4
  go_upto_region 5 with (fail)
  obtain ⟨W5, hW5⟩ : ∃ x, w5.alloc (.cells #[.int .i64 (v : Nat), .int .i64 5, .slice (some ⟨gB, 0, none⟩) N N] 24) = x := ⟨_, rfl⟩
  rw [hW5]
  have hb5 : Below w5.heap.size w5 W5 := by rw [← hW5]; exact (Below.refl _ _).alloc (Nat.le_refl _) _
  have HF5 : Hid (Blk W5 w5.heap.size 24 #[.int .i64 (v : Nat), .int .i64 5, .slice (some ⟨gB, 0, none⟩) N N]) := Lib.hid (by rw [← hW5]; exact Blk.new _ _ _)
  have HB5 := Lib.hid (HB5.out.keep hb5 HB5.out.lt)
  have hg7 : g < w5.heap.size := HT5.out.lt
  have HT5 := Lib.hid (HT5.out.keep hb5)
  have HBT5 := Lib.hid (below_all HBT5.out hb5)
  generalize w5.heap.size = g7 at *
  clear hW5 hb5
  go_wp2_with (fail)
  refine (HPOL.out _ g v 2 HT5.out hv1 hv2 (by omega)).mono ?_
  rintro e w6 ⟨_, rfl, ⟨RG, cG, oG, DG, rfl, hQG, hlG, haG, hDG⟩, hT6, ht6⟩
  have HT6 := Lib.hid hT6
  have HK6 := Lib.hid ht6
  have HQG := Lib.hid hQG
  have HAG := Lib.hid haG
  have HDG := Lib.hid hDG
  obtain ⟨nG, hnG⟩ : ∃ x, oG.length = x := ⟨_, rfl⟩
  rw [hnG]
  rw [hnG] at hlG
  have HNG := Lib.hid hnG
  clear hQG haG hDG hT6 ht6 hnG
  go_wp2_with (fail)
  refine (HPOL.out _ g v 3 HT6.out hv1 hv2 (by omega)).mono ?_
  rintro e w7 ⟨_, rfl, ⟨RP, cP, oP, DP, rfl, hQP, hlP, haP, hDP⟩, hT7, ht7⟩
  have HQG := Lib.hid (HQG.out.tk HAG.out HT6.out ht7)
  have HQP := Lib.hid hQP
  have HDP := Lib.hid hDP
  have HK7 := Lib.hid (HK6.out.trans ht7)
  have HBT7 : Hid (Below w.heap.size w w7) := Lib.hid (Tk.below HBT5.out HK7.out hgw)
  have HF7 : Hid (Blk w7 g7 24 #[.int .i64 (v : Nat), .int .i64 5, .slice (some ⟨gB, 0, none⟩) N N]) := Lib.hid ((HK7.out.block _ HF5.out.lt (fun e => by injection e with e; omega)).trans HF5.out)
  have HB7 : Hid (Blk w7 gB 9 (((mons v 5).map f).map vq).toArray) := Lib.hid ((HK7.out.block _ HB5.out.lt (fun e => by injection e with e; omega)).trans HB5.out)
  obtain ⟨nP, hnP⟩ : ∃ x, oP.length = x := ⟨_, rfl⟩
  rw [hnP]
  rw [hnP] at hlP
  have HNP := Lib.hid hnP
  clear hQP haP hDP hT7 ht7 hnP HK6 HK7 HAG HT6 HT5 HF5 HB5 HPOL HBT5
  go_upto_region 6 with (fail)
  obtain ⟨W7, hW7⟩ : ∃ x, (w7.alloc (.cells #[.int .i64 (v : Nat), .slice RG nG cG] 65)).alloc (.cells #[.int .i64 (v : Nat), .slice RP nP cP] 65) = x := ⟨_, rfl⟩
  rw [hW7]
  have hb7 : Below w7.heap.size w7 W7 := by rw [← hW7]; exact ((Below.refl _ _).alloc (Nat.le_refl _) _).alloc (by simp) _
  have HG7 : Hid (Blk W7 w7.heap.size 65 #[.int .i64 (v : Nat), .slice RG nG cG]) := Lib.hid (by rw [← hW7]; exact (Blk.new _ _ _).alloc _)
  have HP7 : Hid (Blk W7 (w7.heap.size + 1) 65 #[.int .i64 (v : Nat), .slice RP nP cP]) := Lib.hid (by
    rw [← hW7]
    have := Blk.new (w7.alloc (.cells #[.int .i64 (v : Nat), .slice RG nG cG] 65)) 65 #[.int .i64 (v : Nat), .slice RP nP cP]
    simpa using this)
  have HF7 := Lib.hid (HF7.out.keep hb7 HF7.out.lt)
  have HB7 := Lib.hid (HB7.out.keep hb7 HB7.out.lt)
  have HQG := Lib.hid (HQG.out.keep hb7)
  have HQP := Lib.hid (HQP.out.keep hb7)
  have HBT7 := Lib.hid (below_all HBT7.out hb7)
  have hg78 : g7 < w7.heap.size := by
    have h1 := HF7.out.lt
    apply Classical.byContradiction
    intro hge
    have h2 := HG7.out
    have h3 := HP7.out
    have h4 := HF7.out
    have h5 : W7.heap.size = w7.heap.size + 2 := by rw [← hW7]; simp
    have h6 : g7 = w7.heap.size ∨ g7 = w7.heap.size + 1 := by omega
    rcases h6 with h6 | h6
    · rw [h6] at h4; unfold Blk at h2 h4; rw [h2] at h4; injection h4 with h4; injection h4 with _ h4; exact absurd h4 (by decide)
    · rw [h6] at h4; unfold Blk at h3 h4; rw [h3] at h4; injection h4 with h4; injection h4 with _ h4; exact absurd h4 (by decide)
  generalize w7.heap.size = g8 at *
  obtain ⟨GQ, hGQ⟩ : ∃ x, oG.map TQ.qe = x := ⟨_, rfl⟩
  obtain ⟨PQ, hPQ⟩ : ∃ x, oP.map TQ.qe = x := ⟨_, rfl⟩
  have HGQ := Lib.hid hGQ
  have HPQ := Lib.hid hPQ
  have HDG2 : Hid (DrawnP v 2 GQ DG) := Lib.hid (by rw [← hGQ]; exact HDG.out)
  have HDP2 : Hid (DrawnP v 3 PQ DP) := Lib.hid (by rw [← hPQ]; exact HDP.out)
  clear hW7 hb7 hGQ hPQ
  -- what the calls give
  have HWG : Hid (∀ V, Below W7.heap.size W7 V → Calls Tryz.prog 30 #[.agg #[.int .i64 (v : Nat), .slice RG nG cG]] V fun e w' => ∃ T cT tv, e = .returned (.agg #[.int .i64 (v : Nat), .slice T nG cT]) ∧ PolyAt w' v 2 T nG tv GQ ∧ Below V.heap.size V w') := Lib.hid (fun V hb => by
    have h := wr_poly v 2 oG RG cG nG V (HQG.out.keep hb) HNG.out HDG.out.ok HDG.out.sh (by omega)
    rw [HGQ.out] at h
    exact h)
  have HWP : Hid (∀ V, Below W7.heap.size W7 V → Calls Tryz.prog 30 #[.agg #[.int .i64 (v : Nat), .slice RP nP cP]] V fun e w' => ∃ T cT tv, e = .returned (.agg #[.int .i64 (v : Nat), .slice T nP cT]) ∧ PolyAt w' v 3 T nP tv PQ ∧ Below V.heap.size V w') := Lib.hid (fun V hb => by
    have h := wr_poly v 3 oP RP cP nP V (HQP.out.keep hb) HNP.out HDP.out.ok HDP.out.sh (by omega)
    rw [HPQ.out] at h
    exact h)
  have HTM : Hid (∀ V, Below W7.heap.size W7 V → Calls Tryz.prog 34 #[.agg #[.int .i64 (v : Nat), .slice RG nG cG], .agg #[.int .i64 (v : Nat), .slice RP nP cP]] V fun e w' => ∃ R c out nH, e = .returned (.agg #[.int .i64 (v : Nat), .slice R nH c]) ∧ TQs w' R out ∧ out.length = nH ∧ nH ≤ 9 ∧ PolyOk v 5 (out.map TQ.qe) ∧ Eqv v (out.map TQ.qe) (prL GQ PQ) ∧ Below V.heap.size V w') := Lib.hid (fun V hb => by
    have hdm : ∀ {d : Nat} {o : List TQ} {D : Nat}, DrawnP v d (o.map TQ.qe) D → d ≤ 3 → ∀ t ∈ o, t.el.length = v ∧ ∀ e ∈ t.el, 0 ≤ e ∧ e ≤ 1000 := fun hD hd t ht => by
      have h1 := (hD.ok.mem t.qe (qe_mem ht)).2
      exact ⟨(mons_mem h1).1, fun e he => by have := (mons_mem h1).2 e he; omega⟩
    have ok : TmOk v DG DP 171 171 oG oP := ⟨by omega, by rw [HNG.out]; exact hlG, by rw [HNP.out]; exact hlP, hdm HDG.out (by omega), hdm HDP.out (by omega), HDG.out.nm, HDP.out.nm, ⟨HDG.out.d0, HDG.out.d12⟩, ⟨HDP.out.d0, HDP.out.d12⟩, Nat.le_refl _, Nat.le_refl _⟩
    have h := times_any v DG DP 171 171 RG RP cG cP oG oP V (HQG.out.keep hb) (HQP.out.keep hb) ok
    rw [HNG.out, HNP.out, HGQ.out, HPQ.out] at h
    refine h.mono ?_
    rintro e w' ⟨R, c, out, rfl, hQ, hl, hE, ⟨us, hum, hou⟩, hb2⟩
    refine ⟨R, c, out, out.length, rfl, hQ, rfl, hl, polyOk_of (fun u hu => ?_) hou (by rw [List.length_map]; omega), hE, hb2⟩
    obtain ⟨x, hx, e⟩ := hum u hu
    rw [e]
    exact prL_mem (fun t ht => (HDG2.out.ok.mem t ht).2) (fun t ht => (HDP2.out.ok.mem t ht).2) x hx)
  have hlG4 : nG ≤ 4096 := by omega
  clear HDG HDP HNG HNP HQG HQP HGQ HPQ
  obtain ⟨dg, hTi⟩ := HTI.out GQ PQ (prL GQ PQ) DG DP HDG2.out HDP2.out ⟨fun _ => rfl, fun _ _ _ h => h, fun t ht => ⟨t, ht, rfl⟩⟩ (prL_mem (a := 2) (b := 3) (fun t ht => (HDG2.out.ok.mem t ht).2) (fun t ht => (HDP2.out.ok.mem t ht).2))
  have hdg2 := hTi.dg2
  obtain ⟨d, hd⟩ : ∃ d, d + dg = 5 := ⟨5 - dg, by omega⟩
  have hd5 : 5 - dg = d := by omega
  have hd3 : 3 ≤ d ∧ d ≤ 5 := by omega
  obtain ⟨σ, hσ⟩ : ∃ x, (fun m => lin (fun e => f (addL e m)) GQ) = x := ⟨_, rfl⟩
  obtain ⟨Nd, hNd⟩ : ∃ x, cnt v d = x := ⟨_, rfl⟩
  have hNd2 : Nd ≤ 21 := by rw [← hNd]; have := cnt_le_d v d 5 (by omega); have := HN5.out; omega
  obtain ⟨S, hS⟩ : ∃ x, qtx (lin σ PQ) = x := ⟨_, rfl⟩
  have HMT : Hid (∀ V T cT tv, Below W7.heap.size W7 V → PolyAt V v 2 T nG tv GQ → Calls Tryz.prog 33 #[.agg #[.int .i64 (v : Nat), .int .i64 5, .slice (some ⟨gB, 0, none⟩) N N], .agg #[.int .i64 (v : Nat), .slice T nG cT]] V fun e w' => ∃ A', e = .returned (.tuple #[.agg #[.int .i64 (v : Nat), .int .i64 (d : Nat), .slice A' Nd Nd], .int .i64 0]) ∧ Txts w' A' ((mons v d).map σ) ∧ Below V.heap.size V w') := Lib.hid (fun V T cT tv hb hp => by
    have h := mtimes_any v 5 d dg N Nd f (some ⟨gB, 0, none⟩) N T cT nG tv GQ V (txts_of (HB7.out.keep hb HB7.out.lt)) HN5.out hNd (hp.le (by omega)) hTi.top hd HFS.out (fun m hm => hTi.s1 m (by rw [hd5]; exact hm)) hv1 (by omega) (by omega) (by omega) (HPT.out.keep (below_all HBT7.out hb)) (HTA.out.below (below_all HBT7.out hb) HTA.out.1)
    rw [← hσ]
    exact h)
  have HVS : Hid (∀ V A' T cT tv, Below W7.heap.size W7 V → Txts V A' ((mons v d).map σ) → PolyAt V v 3 T nP tv PQ → Calls Tryz.prog 29 #[.agg #[.int .i64 (v : Nat), .int .i64 (d : Nat), .slice A' Nd Nd], .agg #[.int .i64 (v : Nat), .slice T nP cT]] V fun e w' => e = .returned (.tuple #[.string S, .int .i64 0]) ∧ Below V.heap.size V w') := Lib.hid (fun V A' T cT tv hb htx hp => by
    have h := value_any v d Nd σ A' Nd T cT nP tv PQ V htx hNd (hp.le hd3.1) (fun m hm => by rw [← hσ]; exact hTi.sh m (by rw [hd5]; exact hm)) (by have := hTi.s2; rw [hσ, hd5] at this; exact this) hv1 (by omega) (by omega) (by omega) (HPT.out.keep (below_all HBT7.out hb)) (HTA.out.below (below_all HBT7.out hb) HTA.out.1)
    rw [hS] at h
    exact h)
  have HVF : Hid (∀ V T cT tv nH (H : List (Rat × List Int)), Below W7.heap.size W7 V → PolyAt V v 5 T nH tv H → Eqv v H (prL GQ PQ) → Calls Tryz.prog 29 #[.agg #[.int .i64 (v : Nat), .int .i64 5, .slice (some ⟨gB, 0, none⟩) N N], .agg #[.int .i64 (v : Nat), .slice T nH cT]] V fun e w' => e = .returned (.tuple #[.string S, .int .i64 0]) ∧ Below V.heap.size V w') := Lib.hid (fun V T cT tv nH H hb hp hE => by
    obtain ⟨dg', hTi'⟩ := HTI.out GQ PQ H DG DP HDG2.out HDP2.out hE (fun t ht => (hp.ok.mem t ht).2)
    have h := value_any v 5 N f (some ⟨gB, 0, none⟩) N T cT nH tv H V (txts_of (HB7.out.keep hb HB7.out.lt)) HN5.out hp HFS.out hTi'.s3 hv1 (by omega) (by omega) (by omega) (HPT.out.keep (below_all HBT7.out hb)) (HTA.out.below (below_all HBT7.out hb) HTA.out.1)
    have e := hTi'.law
    rw [hσ] at e
    rw [← e, hS] at h
    exact h)
  have HWH : Hid (∀ V R c (out : List TQ) nH, TQs V R out → out.length = nH → PolyOk v 5 (out.map TQ.qe) → Eqv v (out.map TQ.qe) (prL GQ PQ) → Calls Tryz.prog 30 #[.agg #[.int .i64 (v : Nat), .slice R nH c]] V fun e w' => ∃ T cT tv, e = .returned (.agg #[.int .i64 (v : Nat), .slice T nH cT]) ∧ PolyAt w' v 5 T nH tv (out.map TQ.qe) ∧ Below V.heap.size V w') := Lib.hid (fun V R c out nH hQ hl hok hE => by
    have d1 := HDG2.out.d0
    have d2 := HDP2.out.d0
    have h0 : 0 < DG * DP := Nat.mul_pos d1 d2
    have h1 : DG * DP ≤ 144 := Nat.mul_le_mul HDG2.out.d12 HDP2.out.d12
    have hnm := hE.nm _ _ h0 (prL_nm HDG2.out.nm HDP2.out.nm)
    exact wr_poly v 5 out R c nH V hQ hl hok (fun t ht => ⟨(hnm.mem t ht).sh h0 (by omega) (by decide), (hok.mem t ht).1, qtx_size19 (hnm.mem t ht) h0 (by omega) (by decide)⟩) (by omega))
  have HKN : Hid (∀ V, Below W7.heap.size W7 V → Calls Tryz.prog 9 #[] V fun e w' => e = .returned (.bool true) ∧ Below V.heap.size V w') := Lib.hid (fun V hb => known_any V (HPT.out.keep (below_all HBT7.out hb)))
  obtain ⟨xf0, xf1, xf2, _, _, _⟩ := HF7.out.three
  obtain ⟨xg0, xg1, _, _⟩ := HG7.out.two
  have hg7W : g7 < W7.heap.size := HF7.out.lt
  have hg8W : g8 + 1 < W7.heap.size := HP7.out.lt
  clear hTi hσ hNd hS HTI HFS HDG2 HDP2 HN5 HPT HTA hd5
  go_cut [10, 11] (fun s10 s11 wx => ∃ (g10 : Nat) (A6 : Option Addr), s10 = .pointer (some ⟨g10, 0, none⟩) ∧ s11 = .int .i64 0 ∧ Hid (Below W7.heap.size W7 wx ∧ W7.heap.size ≤ g10 ∧ Blk wx g10 24 #[.int .i64 (v : Nat), .int .i64 (d : Nat), .slice A6 Nd Nd] ∧ Txts wx A6 ((mons v d).map σ)))
  case first =>
    have BZ : Below W7.heap.size W7 W7.drew := (Below.refl _ _).drew
    refine wp_region_held_drew (S := (fun w' => w'.cell? ⟨g7, 0, none⟩ = some (.int .i64 (v : Nat)) ∧ w'.cell? ⟨g7, 1, none⟩ = some (.int .i64 5) ∧ w'.cell? ⟨g7, 2, none⟩ = some (.slice (some ⟨gB, 0, none⟩) N N) ∧ w'.cell? ⟨g8, 0, none⟩ = some (.int .i64 (v : Nat)) ∧ w'.cell? ⟨g8, 1, none⟩ = some (.slice RG nG cG))) (by kernel_rfl) ⟨keep_cell BZ xf0, keep_cell BZ xf1, keep_cell BZ xf2, keep_cell BZ xg0, keep_cell BZ xg1⟩ (fun hHeld => ?_)
    generalize W7.drew = Z at *
    refine wpAnyH_get 0 (some 38) (.agg #[.int .i64 (v : Nat), .int .i64 5, .slice (some ⟨gB, 0, none⟩) N N]) rfl rfl (by kernel_rfl) (by kernel_rfl) (by kernel_rfl) (fun _ _ _ h => h) (by rfl) hHeld ?_ ?_
    · (intro w hSw; (try dsimp only at hSw); go_simp; all_goals (try with_reducible rfl))
    (try simp only [Act.put, List.setIfInBounds_toArray, List.set_cons_zero, List.set_cons_succ])
    refine wpAnyH_get 1 (some 39) (.agg #[.int .i64 (v : Nat), .slice RG nG cG]) rfl rfl (by kernel_rfl) (by kernel_rfl) (by kernel_rfl) (fun _ _ _ h => h) (by rfl) hHeld ?_ ?_
    · (intro w hSw; (try dsimp only at hSw); go_simp; all_goals (try with_reducible rfl))
    (try simp only [Act.put, List.setIfInBounds_toArray, List.set_cons_zero, List.set_cons_succ])
    refine wpAnyH_ready (rs := [2, 7]) (by kernel_rfl) (by simp) ?_
    refine AllReadyH.cons rfl (fun K hK => ?_) (AllReadyH.cons rfl (fun K hK => ?_) AllReadyH.nil)
    · go_simp
      refine (HWG.out _ BZ).mono ?_
      rintro e Z1 ⟨TG, cTG, tvG, rfl, hPG, hb⟩
      have HPG := Lib.hid hPG
      have BZ1 := below_all BZ hb
      clear hPG hb
      (try go_simp)
      refine hK.out _ _ ⟨keep_cell BZ1 xf0, keep_cell BZ1 xf1, keep_cell BZ1 xf2, keep_cell BZ1 xg0, keep_cell BZ1 xg1⟩ (fun hHeld => ?_)
      clear hK K
      (try simp only [Act.put, List.setIfInBounds_toArray, List.set_cons_zero, List.set_cons_succ])
      refine wpAnyH_ready (rs := [3, 7]) (by kernel_rfl) (by simp) ?_
      refine AllReadyH.cons rfl (fun K hK => ?_) (AllReadyH.cons rfl (fun K hK => ?_) AllReadyH.nil)
      · go_simp
        refine (HMT.out _ _ _ _ BZ1 HPG.out).mono ?_
        rintro e Z2 ⟨A6, rfl, hTX, hb⟩
        have HTX := Lib.hid hTX
        have BZ2 := below_all BZ1 hb
        clear hTX hb
        (try go_simp)
        refine hK.out _ _ ⟨keep_cell BZ2 xf0, keep_cell BZ2 xf1, keep_cell BZ2 xf2, keep_cell BZ2 xg0, keep_cell BZ2 xg1⟩ (fun hHeld => ?_)
        clear hK K
        (try simp only [Act.put, List.setIfInBounds_toArray, List.set_cons_zero, List.set_cons_succ])
        refine wpAnyH_get 4 (some 37) (.tuple #[.agg #[.int .i64 (v : Nat), .int .i64 (d : Nat), .slice A6 Nd Nd], .int .i64 0]) rfl rfl (by kernel_rfl) (by kernel_rfl) (by kernel_rfl) (fun _ _ _ h => h) (by rfl) hHeld ?_ ?_
        · (intro w hSw; (try dsimp only at hSw); go_simp; all_goals (try with_reducible rfl))
        (try simp only [Act.put, List.setIfInBounds_toArray, List.set_cons_zero, List.set_cons_succ])
        refine wpAnyH_get 5 (some 42) (.agg #[.int .i64 (v : Nat), .int .i64 (d : Nat), .slice A6 Nd Nd]) rfl rfl (by kernel_rfl) (by kernel_rfl) (by kernel_rfl) (fun _ _ _ h => h) (by rfl) hHeld ?_ ?_
        · (intro w hSw; (try dsimp only at hSw); go_simp; all_goals (try with_reducible rfl))
        (try simp only [Act.put, List.setIfInBounds_toArray, List.set_cons_zero, List.set_cons_succ])
        refine wpAnyH_get 6 (some 43) (.int .i64 0) rfl rfl (by kernel_rfl) (by kernel_rfl) (by kernel_rfl) (fun _ _ _ h => h) (by rfl) hHeld ?_ ?_
        · (intro w hSw; (try dsimp only at hSw); go_simp; all_goals (try with_reducible rfl))
        (try simp only [Act.put, List.setIfInBounds_toArray, List.set_cons_zero, List.set_cons_succ])
        refine wpAnyH_ready (rs := [7]) (by kernel_rfl) (by simp) ?_
        refine AllReadyH.cons rfl (fun K hK => ?_) AllReadyH.nil
        go_simp
        obtain ⟨Z3, hz2⟩ : ∃ x, Z2.alloc (.cells #[.int .i64 0, .int .i64 0, .slice none 0 0] 24) = x := ⟨_, rfl⟩
        rw [hz2]
        have hbz : Below Z2.heap.size Z2 Z3 := by rw [← hz2]; exact (Below.refl _ _).alloc (Nat.le_refl _) _
        have HZ10 : Hid (Blk Z3 Z2.heap.size 24 #[.int .i64 0, .int .i64 0, .slice none 0 0]) := Lib.hid (by rw [← hz2]; exact Blk.new _ _ _)
        have BZ3 := below_all BZ2 hbz
        have hg10 : W7.heap.size ≤ Z2.heap.size := BZ2.size
        have HTX := Lib.hid (HTX.out.keep hbz)
        clear hz2 hbz
        generalize Z2.heap.size = g10 at HZ10 hg10 ⊢
        refine hK.out _ _ ⟨keep_cell BZ3 xf0, keep_cell BZ3 xf1, keep_cell BZ3 xf2, keep_cell BZ3 xg0, keep_cell BZ3 xg1⟩ (fun hHeld => ?_)
        clear hK K
        (try simp only [Act.put, List.setIfInBounds_toArray, List.set_cons_zero, List.set_cons_succ])
        refine wpAnyH_ready (rs := [8]) (by kernel_rfl) (by simp) ?_
        refine AllReadyH.cons rfl (fun K hK => ?_) AllReadyH.nil
        obtain ⟨t0, t1, t2, f0, f1, f2⟩ := HZ10.out.three
        go_simp
        have HS10 : Hid (Blk (((Z3.setCell ⟨g10, 0, none⟩ (.int .i64 (v : Nat))).setCell ⟨g10, 1, none⟩ (.int .i64 (d : Nat))).setCell ⟨g10, 2, none⟩ (.slice A6 Nd Nd)) g10 24 #[.int .i64 (v : Nat), .int .i64 (d : Nat), .slice A6 Nd Nd]) := Lib.hid (Fi.blk3 HZ10.out)
        have HTX := Lib.hid (Fi.txts_far3 (p := .int .i64 (v : Nat)) (q := .int .i64 (d : Nat)) (r := .slice A6 Nd Nd) HTX.out HZ10.out)
        have BZ4 : Below W7.heap.size W7 (((Z3.setCell ⟨g10, 0, none⟩ (.int .i64 (v : Nat))).setCell ⟨g10, 1, none⟩ (.int .i64 (d : Nat))).setCell ⟨g10, 2, none⟩ (.slice A6 Nd Nd)) := below_far (below_far (below_far BZ3 hg10 _ _) hg10 _ _) hg10 _ _
        refine hK.out _ _ ⟨cell_three (keep_cell BZ3 xf0) (by simp; omega), cell_three (keep_cell BZ3 xf1) (by simp; omega), cell_three (keep_cell BZ3 xf2) (by simp; omega), cell_three (keep_cell BZ3 xg0) (by simp; omega), cell_three (keep_cell BZ3 xg1) (by simp; omega)⟩ (fun hHeld => ?_)
        clear hK K t0 t1 t2 f0 f1 f2
        (try simp only [Act.put, List.setIfInBounds_toArray, List.set_cons_zero, List.set_cons_succ])
        refine wpAnyH_get 9 (some 11) (.int .i64 0) rfl rfl (by kernel_rfl) (by kernel_rfl) (by kernel_rfl) (fun _ _ _ h => h) (by rfl) hHeld ?_ ?_
        · (intro w hSw; (try dsimp only at hSw); go_simp; all_goals (try with_reducible rfl))
        (try simp only [Act.put, List.setIfInBounds_toArray, List.set_cons_zero, List.set_cons_succ])
        refine wpAnyH_done (by kernel_rfl) ?_ _
        go_wp2
        go_meet
        exact ⟨_, _, rfl, rfl, Lib.hid ⟨BZ4, hg10, HS10.out, HTX.out⟩⟩
      · go_simp
        obtain ⟨Z5, hz2⟩ : ∃ x, Z1.alloc (.cells #[.int .i64 0, .int .i64 0, .slice none 0 0] 24) = x := ⟨_, rfl⟩
        rw [hz2]
        have hbz : Below Z1.heap.size Z1 Z5 := by rw [← hz2]; exact (Below.refl _ _).alloc (Nat.le_refl _) _
        have HZ10 : Hid (Blk Z5 Z1.heap.size 24 #[.int .i64 0, .int .i64 0, .slice none 0 0]) := Lib.hid (by rw [← hz2]; exact Blk.new _ _ _)
        have BZ5 := below_all BZ1 hbz
        have hg10 : W7.heap.size ≤ Z1.heap.size := BZ1.size
        have HPG := Lib.hid (HPG.out.keep hbz)
        clear hz2 hbz
        generalize Z1.heap.size = g10 at HZ10 hg10 ⊢
        refine hK.out _ _ ⟨keep_cell BZ5 xf0, keep_cell BZ5 xf1, keep_cell BZ5 xf2, keep_cell BZ5 xg0, keep_cell BZ5 xg1⟩ (fun hHeld => ?_)
        clear hK K
        (try simp only [Act.put, List.setIfInBounds_toArray, List.set_cons_zero, List.set_cons_succ])
        refine wpAnyH_ready (rs := [3]) (by kernel_rfl) (by simp) ?_
        refine AllReadyH.cons rfl (fun K hK => ?_) AllReadyH.nil
        go_simp
        refine (HMT.out _ _ _ _ BZ5 HPG.out).mono ?_
        rintro e Z6 ⟨A6, rfl, hTX, hb⟩
        have HTX := Lib.hid hTX
        have BZ6 := below_all BZ5 hb
        have HZ10 := Lib.hid (HZ10.out.keep hb HZ10.out.lt)
        clear hTX hb
        (try go_simp)
        refine hK.out _ _ ⟨keep_cell BZ6 xf0, keep_cell BZ6 xf1, keep_cell BZ6 xf2, keep_cell BZ6 xg0, keep_cell BZ6 xg1⟩ (fun hHeld => ?_)
        clear hK K
        (try simp only [Act.put, List.setIfInBounds_toArray, List.set_cons_zero, List.set_cons_succ])
        refine wpAnyH_get 4 (some 37) (.tuple #[.agg #[.int .i64 (v : Nat), .int .i64 (d : Nat), .slice A6 Nd Nd], .int .i64 0]) rfl rfl (by kernel_rfl) (by kernel_rfl) (by kernel_rfl) (fun _ _ _ h => h) (by rfl) hHeld ?_ ?_
        · (intro w hSw; (try dsimp only at hSw); go_simp; all_goals (try with_reducible rfl))
        (try simp only [Act.put, List.setIfInBounds_toArray, List.set_cons_zero, List.set_cons_succ])
        refine wpAnyH_get 5 (some 42) (.agg #[.int .i64 (v : Nat), .int .i64 (d : Nat), .slice A6 Nd Nd]) rfl rfl (by kernel_rfl) (by kernel_rfl) (by kernel_rfl) (fun _ _ _ h => h) (by rfl) hHeld ?_ ?_
        · (intro w hSw; (try dsimp only at hSw); go_simp; all_goals (try with_reducible rfl))
        (try simp only [Act.put, List.setIfInBounds_toArray, List.set_cons_zero, List.set_cons_succ])
        refine wpAnyH_get 6 (some 43) (.int .i64 0) rfl rfl (by kernel_rfl) (by kernel_rfl) (by kernel_rfl) (fun _ _ _ h => h) (by rfl) hHeld ?_ ?_
        · (intro w hSw; (try dsimp only at hSw); go_simp; all_goals (try with_reducible rfl))
        (try simp only [Act.put, List.setIfInBounds_toArray, List.set_cons_zero, List.set_cons_succ])
        refine wpAnyH_ready (rs := [8]) (by kernel_rfl) (by simp) ?_
        refine AllReadyH.cons rfl (fun K hK => ?_) AllReadyH.nil
        obtain ⟨t0, t1, t2, f0, f1, f2⟩ := HZ10.out.three
        go_simp
        have HS10 : Hid (Blk (((Z6.setCell ⟨g10, 0, none⟩ (.int .i64 (v : Nat))).setCell ⟨g10, 1, none⟩ (.int .i64 (d : Nat))).setCell ⟨g10, 2, none⟩ (.slice A6 Nd Nd)) g10 24 #[.int .i64 (v : Nat), .int .i64 (d : Nat), .slice A6 Nd Nd]) := Lib.hid (Fi.blk3 HZ10.out)
        have HTX := Lib.hid (Fi.txts_far3 (p := .int .i64 (v : Nat)) (q := .int .i64 (d : Nat)) (r := .slice A6 Nd Nd) HTX.out HZ10.out)
        have BZ7 : Below W7.heap.size W7 (((Z6.setCell ⟨g10, 0, none⟩ (.int .i64 (v : Nat))).setCell ⟨g10, 1, none⟩ (.int .i64 (d : Nat))).setCell ⟨g10, 2, none⟩ (.slice A6 Nd Nd)) := below_far (below_far (below_far BZ6 hg10 _ _) hg10 _ _) hg10 _ _
        refine hK.out _ _ ⟨cell_three (keep_cell BZ6 xf0) (by simp; omega), cell_three (keep_cell BZ6 xf1) (by simp; omega), cell_three (keep_cell BZ6 xf2) (by simp; omega), cell_three (keep_cell BZ6 xg0) (by simp; omega), cell_three (keep_cell BZ6 xg1) (by simp; omega)⟩ (fun hHeld => ?_)
        clear hK K t0 t1 t2 f0 f1 f2
        (try simp only [Act.put, List.setIfInBounds_toArray, List.set_cons_zero, List.set_cons_succ])
        refine wpAnyH_get 9 (some 11) (.int .i64 0) rfl rfl (by kernel_rfl) (by kernel_rfl) (by kernel_rfl) (fun _ _ _ h => h) (by rfl) hHeld ?_ ?_
        · (intro w hSw; (try dsimp only at hSw); go_simp; all_goals (try with_reducible rfl))
        (try simp only [Act.put, List.setIfInBounds_toArray, List.set_cons_zero, List.set_cons_succ])
        refine wpAnyH_done (by kernel_rfl) ?_ _
        go_wp2
        go_meet
        exact ⟨_, _, rfl, rfl, Lib.hid ⟨BZ7, hg10, HS10.out, HTX.out⟩⟩
    · go_simp
      obtain ⟨Z8, hz2⟩ : ∃ x, Z.alloc (.cells #[.int .i64 0, .int .i64 0, .slice none 0 0] 24) = x := ⟨_, rfl⟩
      rw [hz2]
      have hbz : Below Z.heap.size Z Z8 := by rw [← hz2]; exact (Below.refl _ _).alloc (Nat.le_refl _) _
      have HZ10 : Hid (Blk Z8 Z.heap.size 24 #[.int .i64 0, .int .i64 0, .slice none 0 0]) := Lib.hid (by rw [← hz2]; exact Blk.new _ _ _)
      have BZ8 := below_all BZ hbz
      have hg10 : W7.heap.size ≤ Z.heap.size := BZ.size
      clear hz2 hbz
      generalize Z.heap.size = g10 at HZ10 hg10 ⊢
      refine hK.out _ _ ⟨keep_cell BZ8 xf0, keep_cell BZ8 xf1, keep_cell BZ8 xf2, keep_cell BZ8 xg0, keep_cell BZ8 xg1⟩ (fun hHeld => ?_)
      clear hK K
      (try simp only [Act.put, List.setIfInBounds_toArray, List.set_cons_zero, List.set_cons_succ])
      refine wpAnyH_ready (rs := [2]) (by kernel_rfl) (by simp) ?_
      refine AllReadyH.cons rfl (fun K hK => ?_) AllReadyH.nil
      go_simp
      refine (HWG.out _ BZ8).mono ?_
      rintro e Z9 ⟨TG, cTG, tvG, rfl, hPG, hb⟩
      have HPG := Lib.hid hPG
      have BZ9 := below_all BZ8 hb
      have HZ10 := Lib.hid (HZ10.out.keep hb HZ10.out.lt)
      clear hPG hb
      (try go_simp)
      refine hK.out _ _ ⟨keep_cell BZ9 xf0, keep_cell BZ9 xf1, keep_cell BZ9 xf2, keep_cell BZ9 xg0, keep_cell BZ9 xg1⟩ (fun hHeld => ?_)
      clear hK K
      (try simp only [Act.put, List.setIfInBounds_toArray, List.set_cons_zero, List.set_cons_succ])
      refine wpAnyH_ready (rs := [3]) (by kernel_rfl) (by simp) ?_
      refine AllReadyH.cons rfl (fun K hK => ?_) AllReadyH.nil
      go_simp
      refine (HMT.out _ _ _ _ BZ9 HPG.out).mono ?_
      rintro e Z10 ⟨A6, rfl, hTX, hb⟩
      have HTX := Lib.hid hTX
      have BZ10 := below_all BZ9 hb
      have HZ10 := Lib.hid (HZ10.out.keep hb HZ10.out.lt)
      clear hTX hb
      (try go_simp)
      refine hK.out _ _ ⟨keep_cell BZ10 xf0, keep_cell BZ10 xf1, keep_cell BZ10 xf2, keep_cell BZ10 xg0, keep_cell BZ10 xg1⟩ (fun hHeld => ?_)
      clear hK K
      (try simp only [Act.put, List.setIfInBounds_toArray, List.set_cons_zero, List.set_cons_succ])
      refine wpAnyH_get 4 (some 37) (.tuple #[.agg #[.int .i64 (v : Nat), .int .i64 (d : Nat), .slice A6 Nd Nd], .int .i64 0]) rfl rfl (by kernel_rfl) (by kernel_rfl) (by kernel_rfl) (fun _ _ _ h => h) (by rfl) hHeld ?_ ?_
      · (intro w hSw; (try dsimp only at hSw); go_simp; all_goals (try with_reducible rfl))
      (try simp only [Act.put, List.setIfInBounds_toArray, List.set_cons_zero, List.set_cons_succ])
      refine wpAnyH_get 5 (some 42) (.agg #[.int .i64 (v : Nat), .int .i64 (d : Nat), .slice A6 Nd Nd]) rfl rfl (by kernel_rfl) (by kernel_rfl) (by kernel_rfl) (fun _ _ _ h => h) (by rfl) hHeld ?_ ?_
      · (intro w hSw; (try dsimp only at hSw); go_simp; all_goals (try with_reducible rfl))
      (try simp only [Act.put, List.setIfInBounds_toArray, List.set_cons_zero, List.set_cons_succ])
      refine wpAnyH_get 6 (some 43) (.int .i64 0) rfl rfl (by kernel_rfl) (by kernel_rfl) (by kernel_rfl) (fun _ _ _ h => h) (by rfl) hHeld ?_ ?_
      · (intro w hSw; (try dsimp only at hSw); go_simp; all_goals (try with_reducible rfl))
      (try simp only [Act.put, List.setIfInBounds_toArray, List.set_cons_zero, List.set_cons_succ])
      refine wpAnyH_ready (rs := [8]) (by kernel_rfl) (by simp) ?_
      refine AllReadyH.cons rfl (fun K hK => ?_) AllReadyH.nil
      obtain ⟨t0, t1, t2, f0, f1, f2⟩ := HZ10.out.three
      go_simp
      have HS10 : Hid (Blk (((Z10.setCell ⟨g10, 0, none⟩ (.int .i64 (v : Nat))).setCell ⟨g10, 1, none⟩ (.int .i64 (d : Nat))).setCell ⟨g10, 2, none⟩ (.slice A6 Nd Nd)) g10 24 #[.int .i64 (v : Nat), .int .i64 (d : Nat), .slice A6 Nd Nd]) := Lib.hid (Fi.blk3 HZ10.out)
      have HTX := Lib.hid (Fi.txts_far3 (p := .int .i64 (v : Nat)) (q := .int .i64 (d : Nat)) (r := .slice A6 Nd Nd) HTX.out HZ10.out)
      have BZ11 : Below W7.heap.size W7 (((Z10.setCell ⟨g10, 0, none⟩ (.int .i64 (v : Nat))).setCell ⟨g10, 1, none⟩ (.int .i64 (d : Nat))).setCell ⟨g10, 2, none⟩ (.slice A6 Nd Nd)) := below_far (below_far (below_far BZ10 hg10 _ _) hg10 _ _) hg10 _ _
      refine hK.out _ _ ⟨cell_three (keep_cell BZ10 xf0) (by simp; omega), cell_three (keep_cell BZ10 xf1) (by simp; omega), cell_three (keep_cell BZ10 xf2) (by simp; omega), cell_three (keep_cell BZ10 xg0) (by simp; omega), cell_three (keep_cell BZ10 xg1) (by simp; omega)⟩ (fun hHeld => ?_)
      clear hK K t0 t1 t2 f0 f1 f2
      (try simp only [Act.put, List.setIfInBounds_toArray, List.set_cons_zero, List.set_cons_succ])
      refine wpAnyH_get 9 (some 11) (.int .i64 0) rfl rfl (by kernel_rfl) (by kernel_rfl) (by kernel_rfl) (fun _ _ _ h => h) (by rfl) hHeld ?_ ?_
      · (intro w hSw; (try dsimp only at hSw); go_simp; all_goals (try with_reducible rfl))
      (try simp only [Act.put, List.setIfInBounds_toArray, List.set_cons_zero, List.set_cons_succ])
      refine wpAnyH_done (by kernel_rfl) ?_ _
      go_wp2
      go_meet
      exact ⟨_, _, rfl, rfl, Lib.hid ⟨BZ11, hg10, HS10.out, HTX.out⟩⟩
  obtain ⟨g10, A6, rfl, rfl, HC6⟩ := hcut
  have HBC : Hid (Below W7.heap.size W7 wc) := Lib.hid HC6.out.1
  obtain ⟨xs0, xs1, xs2, _, _, _⟩ := HC6.out.2.2.1.three
  obtain ⟨xp0, xp1, _, _⟩ := (HP7.out.keep HBC.out HP7.out.lt).two
  have HTX := Lib.hid HC6.out.2.2.2
  clear HWG HMT
  go_upto_region 7 with (fail)
  have BZ : Below wc.heap.size wc wc.drew := (Below.refl _ _).drew
  refine wp_region_held_drew (S := (fun w' => w'.cell? ⟨g10, 0, none⟩ = some (.int .i64 (v : Nat)) ∧ w'.cell? ⟨g10, 1, none⟩ = some (.int .i64 (d : Nat)) ∧ w'.cell? ⟨g10, 2, none⟩ = some (.slice A6 Nd Nd) ∧ w'.cell? ⟨g8 + 1, 0, none⟩ = some (.int .i64 (v : Nat)) ∧ w'.cell? ⟨g8 + 1, 1, none⟩ = some (.slice RP nP cP))) (by kernel_rfl) ⟨keep_cell BZ xs0, keep_cell BZ xs1, keep_cell BZ xs2, keep_cell BZ xp0, keep_cell BZ xp1⟩ (fun hHeld => ?_)
  generalize wc.drew = Z at *
  refine wpAnyH_get 0 (some 45) (.agg #[.int .i64 (v : Nat), .int .i64 (d : Nat), .slice A6 Nd Nd]) rfl rfl (by kernel_rfl) (by kernel_rfl) (by kernel_rfl) (fun _ _ _ h => h) (by rfl) hHeld ?_ ?_
  · (intro w hSw; (try dsimp only at hSw); go_simp; all_goals (try with_reducible rfl))
  (try simp only [Act.put, List.setIfInBounds_toArray, List.set_cons_zero, List.set_cons_succ])
  refine wpAnyH_get 1 (some 46) (.agg #[.int .i64 (v : Nat), .slice RP nP cP]) rfl rfl (by kernel_rfl) (by kernel_rfl) (by kernel_rfl) (fun _ _ _ h => h) (by rfl) hHeld ?_ ?_
  · (intro w hSw; (try dsimp only at hSw); go_simp; all_goals (try with_reducible rfl))
  (try simp only [Act.put, List.setIfInBounds_toArray, List.set_cons_zero, List.set_cons_succ])
  refine wpAnyH_ready (rs := [2]) (by kernel_rfl) (by simp) ?_
  refine AllReadyH.cons rfl (fun K hK => ?_) AllReadyH.nil
  go_simp
  refine (HWP.out _ (below_all HBC.out BZ)).mono ?_
  rintro e Z1 ⟨TP, cTP, tvP, rfl, hPP, hb⟩
  have HPP := Lib.hid hPP
  have BZ1 := below_all BZ hb
  clear hPP hb
  (try go_simp)
  refine hK.out _ _ ⟨keep_cell BZ1 xs0, keep_cell BZ1 xs1, keep_cell BZ1 xs2, keep_cell BZ1 xp0, keep_cell BZ1 xp1⟩ (fun hHeld => ?_)
  clear hK K
  (try simp only [Act.put, List.setIfInBounds_toArray, List.set_cons_zero, List.set_cons_succ])
  refine wpAnyH_ready (rs := [3]) (by kernel_rfl) (by simp) ?_
  refine AllReadyH.cons rfl (fun K hK => ?_) AllReadyH.nil
  go_simp
  refine (HVS.out _ _ _ _ _ (below_all HBC.out BZ1) (HTX.out.keep BZ1) HPP.out).mono ?_
  rintro e Z2 ⟨rfl, hb⟩
  have BZ2 := below_all BZ1 hb
  clear hb
  (try go_simp)
  refine hK.out _ _ ⟨keep_cell BZ2 xs0, keep_cell BZ2 xs1, keep_cell BZ2 xs2, keep_cell BZ2 xp0, keep_cell BZ2 xp1⟩ (fun hHeld => ?_)
  clear hK K
  (try simp only [Act.put, List.setIfInBounds_toArray, List.set_cons_zero, List.set_cons_succ])
  refine wpAnyH_get 4 (some 44) (.tuple #[.string S, .int .i64 0]) rfl rfl (by kernel_rfl) (by kernel_rfl) (by kernel_rfl) (fun _ _ _ h => h) (by rfl) hHeld ?_ ?_
  · (intro w hSw; (try dsimp only at hSw); go_simp; all_goals (try with_reducible rfl))
  (try simp only [Act.put, List.setIfInBounds_toArray, List.set_cons_zero, List.set_cons_succ])
  refine wpAnyH_get 5 (some 49) (.string S) rfl rfl (by kernel_rfl) (by kernel_rfl) (by kernel_rfl) (fun _ _ _ h => h) (by rfl) hHeld ?_ ?_
  · (intro w hSw; (try dsimp only at hSw); go_simp; all_goals (try with_reducible rfl))
  (try simp only [Act.put, List.setIfInBounds_toArray, List.set_cons_zero, List.set_cons_succ])
  refine wpAnyH_get 6 (some 50) (.int .i64 0) rfl rfl (by kernel_rfl) (by kernel_rfl) (by kernel_rfl) (fun _ _ _ h => h) (by rfl) hHeld ?_ ?_
  · (intro w hSw; (try dsimp only at hSw); go_simp; all_goals (try with_reducible rfl))
  (try simp only [Act.put, List.setIfInBounds_toArray, List.set_cons_zero, List.set_cons_succ])
  refine wpAnyH_get 7 (some 12) (.string S) rfl rfl (by kernel_rfl) (by kernel_rfl) (by kernel_rfl) (fun _ _ _ h => h) (by rfl) hHeld ?_ ?_
  · (intro w hSw; (try dsimp only at hSw); go_simp; all_goals (try with_reducible rfl))
  (try simp only [Act.put, List.setIfInBounds_toArray, List.set_cons_zero, List.set_cons_succ])
  refine wpAnyH_get 8 (some 13) (.int .i64 0) rfl rfl (by kernel_rfl) (by kernel_rfl) (by kernel_rfl) (fun _ _ _ h => h) (by rfl) hHeld ?_ ?_
  · (intro w hSw; (try dsimp only at hSw); go_simp; all_goals (try with_reducible rfl))
  (try simp only [Act.put, List.setIfInBounds_toArray, List.set_cons_zero, List.set_cons_succ])
  refine wpAnyH_done (by kernel_rfl) ?_ _
  have HBD : Hid (Below W7.heap.size W7 Z2) := Lib.hid (below_all HBC.out BZ2)
  clear HBC HTX HC6 HPP HVS HWP xs0 xs1 xs2 xp0 xp1
  go_upto_region 8 with (fail)
  obtain ⟨xf0, xf1, xf2, _, _, _⟩ := (HF7.out.keep HBD.out HF7.out.lt).three
  obtain ⟨xg0, xg1, _, _⟩ := (HG7.out.keep HBD.out HG7.out.lt).two
  obtain ⟨xp0, xp1, _, _⟩ := (HP7.out.keep HBD.out HP7.out.lt).two
  have BZ : Below Z2.heap.size Z2 Z2.drew := (Below.refl _ _).drew
  refine wp_region_held_drew (S := (fun w' => w'.cell? ⟨g7, 0, none⟩ = some (.int .i64 (v : Nat)) ∧ w'.cell? ⟨g7, 1, none⟩ = some (.int .i64 5) ∧ w'.cell? ⟨g7, 2, none⟩ = some (.slice (some ⟨gB, 0, none⟩) N N) ∧ w'.cell? ⟨g8, 0, none⟩ = some (.int .i64 (v : Nat)) ∧ w'.cell? ⟨g8, 1, none⟩ = some (.slice RG nG cG) ∧ w'.cell? ⟨g8 + 1, 0, none⟩ = some (.int .i64 (v : Nat)) ∧ w'.cell? ⟨g8 + 1, 1, none⟩ = some (.slice RP nP cP))) (by kernel_rfl) ⟨keep_cell BZ xf0, keep_cell BZ xf1, keep_cell BZ xf2, keep_cell BZ xg0, keep_cell BZ xg1, keep_cell BZ xp0, keep_cell BZ xp1⟩ (fun hHeld => ?_)
  generalize Z2.drew = Z at *
  refine wpAnyH_get 0 (some 52) (.agg #[.int .i64 (v : Nat), .int .i64 5, .slice (some ⟨gB, 0, none⟩) N N]) rfl rfl (by kernel_rfl) (by kernel_rfl) (by kernel_rfl) (fun _ _ _ h => h) (by rfl) hHeld ?_ ?_
  · (intro w hSw; (try dsimp only at hSw); go_simp; all_goals (try with_reducible rfl))
  (try simp only [Act.put, List.setIfInBounds_toArray, List.set_cons_zero, List.set_cons_succ])
  refine wpAnyH_get 1 (some 53) (.agg #[.int .i64 (v : Nat), .slice RG nG cG]) rfl rfl (by kernel_rfl) (by kernel_rfl) (by kernel_rfl) (fun _ _ _ h => h) (by rfl) hHeld ?_ ?_
  · (intro w hSw; (try dsimp only at hSw); go_simp; all_goals (try with_reducible rfl))
  (try simp only [Act.put, List.setIfInBounds_toArray, List.set_cons_zero, List.set_cons_succ])
  refine wpAnyH_get 2 (some 54) (.agg #[.int .i64 (v : Nat), .slice RP nP cP]) rfl rfl (by kernel_rfl) (by kernel_rfl) (by kernel_rfl) (fun _ _ _ h => h) (by rfl) hHeld ?_ ?_
  · (intro w hSw; (try dsimp only at hSw); go_simp; all_goals (try with_reducible rfl))
  (try simp only [Act.put, List.setIfInBounds_toArray, List.set_cons_zero, List.set_cons_succ])
  refine wpAnyH_ready (rs := [3]) (by kernel_rfl) (by simp) ?_
  refine AllReadyH.cons rfl (fun K hK => ?_) AllReadyH.nil
  go_simp
  refine (HTM.out _ (below_all HBD.out BZ)).mono ?_
  rintro e Z1 ⟨RH, cH, oH, nH, rfl, hQH, hlH, hl9, hokH, hEH, hb⟩
  have HQH := Lib.hid hQH
  have HLH := Lib.hid hlH
  have HOH := Lib.hid hokH
  have HEH := Lib.hid hEH
  have BZ1 := below_all BZ hb
  clear hQH hlH hokH hEH hb
  (try go_simp)
  refine hK.out _ _ ⟨keep_cell BZ1 xf0, keep_cell BZ1 xf1, keep_cell BZ1 xf2, keep_cell BZ1 xg0, keep_cell BZ1 xg1, keep_cell BZ1 xp0, keep_cell BZ1 xp1⟩ (fun hHeld => ?_)
  clear hK K
  (try simp only [Act.put, List.setIfInBounds_toArray, List.set_cons_zero, List.set_cons_succ])
  refine wpAnyH_ready (rs := [4]) (by kernel_rfl) (by simp) ?_
  refine AllReadyH.cons rfl (fun K hK => ?_) AllReadyH.nil
  go_simp
  refine (HWH.out _ _ _ _ _ HQH.out HLH.out HOH.out HEH.out).mono ?_
  rintro e Z2 ⟨TH, cTH, tvH, rfl, hPH, hb⟩
  have HPH := Lib.hid hPH
  have BZ2 := below_all BZ1 hb
  clear hPH hb
  (try go_simp)
  refine hK.out _ _ ⟨keep_cell BZ2 xf0, keep_cell BZ2 xf1, keep_cell BZ2 xf2, keep_cell BZ2 xg0, keep_cell BZ2 xg1, keep_cell BZ2 xp0, keep_cell BZ2 xp1⟩ (fun hHeld => ?_)
  clear hK K
  (try simp only [Act.put, List.setIfInBounds_toArray, List.set_cons_zero, List.set_cons_succ])
  refine wpAnyH_ready (rs := [5]) (by kernel_rfl) (by simp) ?_
  refine AllReadyH.cons rfl (fun K hK => ?_) AllReadyH.nil
  go_simp
  refine (HVF.out _ _ _ _ _ _ (below_all HBD.out BZ2) HPH.out HEH.out).mono ?_
  rintro e Z3 ⟨rfl, hb⟩
  have BZ3 := below_all BZ2 hb
  clear hb
  (try go_simp)
  refine hK.out _ _ ⟨keep_cell BZ3 xf0, keep_cell BZ3 xf1, keep_cell BZ3 xf2, keep_cell BZ3 xg0, keep_cell BZ3 xg1, keep_cell BZ3 xp0, keep_cell BZ3 xp1⟩ (fun hHeld => ?_)
  clear hK K
  (try simp only [Act.put, List.setIfInBounds_toArray, List.set_cons_zero, List.set_cons_succ])
  refine wpAnyH_get 6 (some 51) (.tuple #[.string S, .int .i64 0]) rfl rfl (by kernel_rfl) (by kernel_rfl) (by kernel_rfl) (fun _ _ _ h => h) (by rfl) hHeld ?_ ?_
  · (intro w hSw; (try dsimp only at hSw); go_simp; all_goals (try with_reducible rfl))
  (try simp only [Act.put, List.setIfInBounds_toArray, List.set_cons_zero, List.set_cons_succ])
  refine wpAnyH_get 7 (some 58) (.string S) rfl rfl (by kernel_rfl) (by kernel_rfl) (by kernel_rfl) (fun _ _ _ h => h) (by rfl) hHeld ?_ ?_
  · (intro w hSw; (try dsimp only at hSw); go_simp; all_goals (try with_reducible rfl))
  (try simp only [Act.put, List.setIfInBounds_toArray, List.set_cons_zero, List.set_cons_succ])
  refine wpAnyH_get 8 (some 59) (.int .i64 0) rfl rfl (by kernel_rfl) (by kernel_rfl) (by kernel_rfl) (fun _ _ _ h => h) (by rfl) hHeld ?_ ?_
  · (intro w hSw; (try dsimp only at hSw); go_simp; all_goals (try with_reducible rfl))
  (try simp only [Act.put, List.setIfInBounds_toArray, List.set_cons_zero, List.set_cons_succ])
  refine wpAnyH_get 9 (some 14) (.string S) rfl rfl (by kernel_rfl) (by kernel_rfl) (by kernel_rfl) (fun _ _ _ h => h) (by rfl) hHeld ?_ ?_
  · (intro w hSw; (try dsimp only at hSw); go_simp; all_goals (try with_reducible rfl))
  (try simp only [Act.put, List.setIfInBounds_toArray, List.set_cons_zero, List.set_cons_succ])
  refine wpAnyH_get 10 (some 15) (.int .i64 0) rfl rfl (by kernel_rfl) (by kernel_rfl) (by kernel_rfl) (fun _ _ _ h => h) (by rfl) hHeld ?_ ?_
  · (intro w hSw; (try dsimp only at hSw); go_simp; all_goals (try with_reducible rfl))
  (try simp only [Act.put, List.setIfInBounds_toArray, List.set_cons_zero, List.set_cons_succ])
  refine wpAnyH_done (by kernel_rfl) ?_ _
  have HBE : Hid (Below W7.heap.size W7 Z3) := Lib.hid (below_all HBD.out BZ3)
  go_upto_region 9 with (fail)
  go_wp2_with (go_at_call 9; refine (HKN.out _ HBE.out).mono ?_; rintro e wz ⟨rfl, hbz⟩)
  go_ret
  exact ⟨rfl, below_all HBT7.out (below_all HBE.out hbz)⟩
end Go.Proofs.Tg
end
