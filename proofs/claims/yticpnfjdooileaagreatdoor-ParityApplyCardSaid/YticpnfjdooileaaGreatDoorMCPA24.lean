/- Parts of the proof: XA4, KP1. -/
import Derived.Deep.Cut
import Derived.OwnWalk
import Derived.Test.YticpnfjdooileaaGreatDoorMCPA2
import Derived.Test.YticpnfjdooileaaGreatDoorMCPA6
import Derived.Test.YticpnfjdooileaaGreatDoorMCPA23
section
/- The reference's Apply, walked. -/
namespace Go.Proofs.Tg
open Go.RowKit Go.Gr Go.Ev Go.Mo Go.Qn
set_option maxHeartbeats 8000000
set_option maxRecDepth 100000
/-- What the reference's applying has made after k terms. -/
structure RaSt (s : List Int) (v : Int) (tv : List TV) (ts : List RT) (W1 wr : World) (k : Nat) (A : Option Addr) (c : Nat) (rs : List RT) : Prop where
  len : rs.length = k
  same : ∀ (j : Nat) (h1 : j < rs.length) (h2 : j < ts.length), rs[j].adr = ts[j].adr ∧ rs[j].exps = ts[j].exps
  nums : ∀ (j : Nat) (h1 : j < rs.length) (h2 : j < tv.length), RNm wr rs[j] (appT s (TV.pl tv[j])).1
  below : Below W1.heap.size W1 wr
  b8 : Blk wr W1.heap.size 66 #[.int .i64 v, .slice A rs.length c]
  own : wr.ownsRow (W1.heap.size + 1) 84 5 (.slice A rs.length c) rs.length (rs.flatMap RT.cells)
theorem dot_odd {el s : List Int} (hs : Bit01 s) (hm : ∀ x ∈ el, 0 ≤ x) (hl : s.length = el.length) (h64 : el.length ≤ 64) : dotN el s s.length % 2 = if oddT s el = true then 1 else 0 := by
  rw [chr_odd hs hm hl h64]
  unfold oddT
  by_cases h : size (pk s s.length &&& pk el el.length) % 2 = 1
  · rw [if_pos h, if_pos (decide_eq_true h)]
  · rw [if_neg h, if_neg (by simp [h])]
theorem Blk.five {w : World} {g : Nat} {t : TypeId} {a b c d e : Value} (h : Blk w g t #[a, b, c, d, e]) : w.cell? ⟨g, 0, none⟩ = some a ∧ w.cell? ⟨g, 1, none⟩ = some b ∧ w.cell? ⟨g, 2, none⟩ = some c ∧ w.cell? ⟨g, 3, none⟩ = some d ∧ w.cell? ⟨g, 4, none⟩ = some e ∧
    w.frozen? ⟨g, 0, none⟩ = false ∧ w.frozen? ⟨g, 1, none⟩ = false ∧ w.frozen? ⟨g, 2, none⟩ = false ∧ w.frozen? ⟨g, 3, none⟩ = false ∧ w.frozen? ⟨g, 4, none⟩ = false :=
  ⟨h.cell 0, h.cell 1, h.cell 2, h.cell 3, h.cell 4, h.frozen 0, h.frozen 1, h.frozen 2, h.frozen 3, h.frozen 4⟩
theorem rapply_any (S : Option Addr) (cs : Nat) (s : List Int) (v : Int) (T : Option Addr) (cT : Nat) (tv : List TV) (w : World) (hS : Ints w S s) (hsl : s.length ≤ 64) (hA : TermsAt w T tv) (hn : tv.length ≤ 4096)
    (hsz : ∀ t ∈ tv, t.coef.size ≤ 8 ∧ t.exps.length ≤ 64) :
    Calls Tryz.prog 22 #[.slice S s.length cs, .agg #[.int .i64 v, .slice T tv.length cT]] w (RetApply s v tv w) := by
  have HR := Lib.hid (fun V (h : Below w.heap.size w V) => readP_any v T cT tv V (hA.keep h) hn hsz)
  have HA := Lib.hid hA
  have HS := Lib.hid hS
  have HSZ := Lib.hid hsz
  clear hA hS hsz
  obtain ⟨W, hW⟩ : ∃ W, (w.alloc (.cells #[.int .i64 v, .slice T tv.length cT] 36)).alloc (.cells #[.int .i64 0, .slice none 0 0] 36) = W := ⟨_, rfl⟩
  have B3 : Blk W w.heap.size 36 #[.int .i64 v, .slice T tv.length cT] := by rw [← hW]; exact (Blk.new _ _ _).alloc _
  have B4 : Blk W (w.heap.size + 1) 36 #[.int .i64 0, .slice none 0 0] := by
    rw [← hW]; have := Blk.new (w.alloc (.cells #[.int .i64 v, .slice T tv.length cT] 36)) 36 #[.int .i64 0, .slice none 0 0]
    simpa using this
  have hbW : Below w.heap.size w W := by rw [← hW]; exact ((Below.refl _ _).alloc (Nat.le_refl _) _).alloc (by simp) _
  have HWW := Lib.hid hW
  clear hW
  obtain ⟨a0, a1, _, _⟩ := B3.two
  obtain ⟨i0, hi, iz0, iz1, iz2⟩ := info_parts rt_info
  go_enter Tryz.func22, Tryz.ntmps22
  go_upto_region 1 with (fail)
  rw [HWW.out]
  go_wp2_with (fail)
  refine (HR.out _ hbW).mono ?_
  rintro e w1 ⟨hb1, ⟨hno, rfl⟩ | ⟨hok, O, co, ts, rfl, hown, hcore, hnum⟩⟩
  · have HNO : Hid (¬ (VldP v (tv.map TV.pl) ∧ bit01 s = true)) := Lib.hid (fun h => hno h.1)
    have C4 := B4.keep hb1 B4.lt
    have hbC := below_all hbW hb1
    have hz1 := C4.lt
    clear B3 B4 hbW hb1 a0 a1 hno
    go_upto_region 2 with (fail)
    obtain ⟨W1, hW1⟩ : ∃ W1, w1.alloc (.cells #[.int .i64 0, .slice none 0 0] 66) = W1 := ⟨_, rfl⟩
    have D4 : Blk W1 (w.heap.size + 1) 36 #[.int .i64 0, .slice none 0 0] := by rw [← hW1]; exact C4.alloc _
    have hbD : Below w.heap.size w W1 := by rw [← hW1]; exact hbC.alloc hbC.size _
    try rw [hW1]
    clear hW1 C4 hbC
    obtain ⟨d0, d1, d2, d3⟩ := D4.two
    go_wp2
    refine bodyPost_ret (v := .tuple #[.agg #[.int .i64 0, .slice none 0 0], .int .i64 1]) (by simp [results, Tryz.results22, go_sem, d0, d1]) rfl ⟨?_, .inl ⟨HNO.out, rfl⟩⟩
    exact below_far (below_far hbD (by omega) _ _) (by omega) _ _
  · have HOK := Lib.hid hok
    have HCORE := Lib.hid hcore
    have HTL : Hid (ts.length = tv.length) := Lib.hid (core_len hcore)
    have htb : ts.length ≤ 4096 := by have := HTL.out; omega
    have C4 := B4.keep hb1 B4.lt
    have hbC := below_all hbW hb1
    have hz1 := C4.lt
    clear B3 B4 hbW hb1 a0 a1 hok hcore
    go_upto_region 2 with (fail)
    obtain ⟨W1, hW1⟩ : ∃ W1, w1.alloc (.cells #[.int .i64 v, .slice O ts.length co] 66) = W1 := ⟨_, rfl⟩
    have D4 : Blk W1 (w.heap.size + 1) 36 #[.int .i64 0, .slice none 0 0] := by rw [← hW1]; exact C4.alloc _
    have D6 : Blk W1 w1.heap.size 66 #[.int .i64 v, .slice O ts.length co] := by rw [← hW1]; exact Blk.new _ _ _
    have hbD : Below w.heap.size w W1 := by rw [← hW1]; exact hbC.alloc hbC.size _
    have HO : Hid (Sl W1 O ts.length 5 (ts.flatMap RT.cells)) := Lib.hid (by rw [← hW1]; exact (Sl.own hown).alloc _)
    have HN : Hid (∀ (j : Nat) (h1 : j < ts.length) (h2 : j < tv.length), RCo W1 ts[j] tv[j].coef) := Lib.hid (fun j h1 h2 => by rw [← hW1]; exact (hnum j h1 h2).keep ((Below.refl _ _).alloc (Nat.le_refl _) _))
    try rw [hW1]
    clear hW1 C4 hbC hown hnum
    obtain ⟨d0, d1, d2, d3⟩ := D4.two
    obtain ⟨x0, x1, _, _⟩ := D6.two
    have hz2 := D4.lt
    cases hbit : bit01 s with
    | false =>
      have HNO : Hid (¬ (VldP v (tv.map TV.pl) ∧ bit01 s = true)) := Lib.hid (fun h => by have := h.2; rw [hbit] at this; cases this)
      have HB := Lib.hid (rbits_lit S cs s W1 (HS.out.keep hbD) (by omega) false hbit)
      clear hbit
      go_wp2_with (go_at_call 42; refine HB.out.mono ?_; rintro e w' ⟨rfl, rfl⟩)
      refine bodyPost_ret (v := .tuple #[.agg #[.int .i64 0, .slice none 0 0], .int .i64 1]) (by simp [results, Tryz.results22, go_sem, d0, d1]) rfl ⟨?_, .inl ⟨HNO.out, rfl⟩⟩
      exact below_far (below_far hbD (by omega) _ _) (by omega) _ _
    | true =>
      have HYES : Hid (VldP v (tv.map TV.pl) ∧ bit01 s = true) := Lib.hid ⟨HOK.out, hbit⟩
      have HB := Lib.hid (rbits_lit S cs s W1 (HS.out.keep hbD) (by omega) true hbit)
      clear hbit
      by_cases hlv : (s.length : Int) = v
      · have hne : ((s.length : Int) != v) = false := by simp [hlv]
        have hne' : ((s.length : Int) == v) = true := by simp [hlv]
        have hl6 : s.length ≤ 6 := by have := HYES.out.1.2.1.2.1; omega
        have HLV := Lib.hid hlv
        clear hlv
        go_upto_region 7 with (go_at_call 42; refine HB.out.mono ?_; rintro e w' ⟨rfl, rfl⟩)
        obtain ⟨W2, hW2⟩ : ∃ W2, W1.alloc (.cells #[.int .i64 v, .slice none 0 0] 66) = W2 := ⟨_, rfl⟩
        have E8 : Blk W2 W1.heap.size 66 #[.int .i64 v, .slice none 0 0] := by rw [← hW2]; exact Blk.new _ _ _
        have hbE : Below W1.heap.size W1 W2 := by rw [← hW2]; exact (Below.refl _ _).alloc (Nat.le_refl _) _
        rw [hW2]
        clear hW2 d0 d1 d2 d3 x0 x1 HB
        go_wp2
        go_loopw [9] (fun s9 wr => ∃ (k : Nat) (A : Option Addr) (c : Nat) (rs : List RT), s9 = .int .i64 k ∧ k ≤ ts.length ∧ Hid (RaSt s v tv ts W1 wr k A c rs)) (fun s9 _ => ts.length - (intOf s9).toNat)
        case atStart => exact ⟨0, none, 0, [], rfl, Nat.zero_le _, Lib.hid ⟨rfl, fun j h => absurd h (by simp), fun j h => absurd h (by simp), hbE, E8, World.ownsRow_nil _ _ _ _⟩⟩
        case round =>
          clear E8 hbE
          obtain ⟨wo, rfl⟩ : ∃ wo : World, wo = wr := ⟨_, rfl⟩
          obtain ⟨k, A, c, rs, rfl, hk, HST⟩ := hrel
          have hbr := HST.out.below
          have hz3 := HST.out.b8.lt
          have HRL := Lib.hid HST.out.len
          have hrb : rs.length ≤ 4096 := by have := HRL.out; omega
          obtain ⟨x0, x1, _, _⟩ := (D6.keep hbr D6.lt).two
          by_cases hlt : k < ts.length
          · have hlt2 : k < tv.length := by have := HTL.out; omega
            obtain ⟨od, rfl, hob, k0, k1, k2, k3, k4⟩ := RT5.at HO.out hlt
            have k0 := keep_cell hbr k0
            have k1 := keep_cell hbr k1
            have k2 := keep_cell hbr k2
            have k3 := keep_cell hbr k3
            have k4 := keep_cell hbr k4
            obtain ⟨g1, g2, g3⟩ := core_get HCORE.out hlt hlt2
            have hIk := ((HA.out.keep hbD).ints tv[k] (List.getElem_mem _)).keep hbr
            have hel : (tv[k].exps.length : Int) = v ∧ low20 tv[k].exps = true ∧ coefOk tv[k].coef = true := by
              have := (HYES.out.1.2.1.2.2 k (by simpa using hlt2) (by simpa using hlt2)).1
              rw [List.getElem_map, termOk_iff] at this
              exact ⟨this.2.1, this.2.2, this.1⟩
            have HRN := Lib.hid ((HN.out k hlt hlt2).rnm hel.2.2)
            have HRC := Lib.hid (fun (t' : RT) (h1 : t'.adr = ts[k].adr) (h2 : t'.exps = ts[k].exps) => (⟨h1, h2⟩ : t'.adr = ts[k].adr ∧ t'.exps = ts[k].exps))
            have HAP : Hid (∀ h2 : k < tv.length, (appT s (TV.pl (tv[k]'h2))).1 = if oddT s (tv[k]'hlt2).exps = true then negB (tv[k]'hlt2).coef else (tv[k]'hlt2).coef) := Lib.hid (fun h2 => by
              unfold appT
              simp only [TV.pl]
              by_cases h : oddT s (tv[k]'hlt2).exps = true
              · simp [h]
              · simp [h])
            have HTS : Hid (∀ (h2 : k < ts.length), (ts[k]'h2).adr = (ts[k]'hlt).adr ∧ (ts[k]'h2).exps = (ts[k]'hlt).exps) := Lib.hid (fun _ => ⟨rfl, rfl⟩)
            rw [g1, g3] at k4
            rw [g1, g3] at HTS
            clear g1 g2 g3 HRC
            generalize tv[k].exps = el at *
            generalize tv[k].adr = E at *
            generalize ts[k].cap = ce at *
            generalize tv[k].coef = cf at *
            obtain ⟨b, n, m, N, cn, D, cd, h0, h2, h3, h4, h5, h6, h7, h8, h9, h10, h11⟩ := HRN.out
            rw [h5] at k0
            rw [h6] at k1
            rw [h7] at k2
            rw [h8] at k3
            have hnp : 0 < (mg n).length := by rw [mg_pos h0]; simp
            have hnl : (mg n).length ≤ 1 := mg_le n
            -- the number behind the sign
            have HNEW : Hid (∀ (V : World), Below W1.heap.size W1 V → RNm V ⟨.bool (if oddT s el = true then !b else b), .slice N (mg n).length cn, .bool false, .slice D (dl m).length cd, E, ce, el⟩ (if oddT s el = true then negB cf else cf)) := Lib.hid (fun V hV => by
              have hq : RNm W1 ⟨.bool b, .slice N (mg n).length cn, .bool false, .slice D (dl m).length cd, E, ce, el⟩ cf := ⟨b, n, m, N, cn, D, cd, h0, h2, h3, h4, rfl, rfl, rfl, rfl, h9, h10, h11⟩
              cases ho : oddT s el with
              | false => simp only [Bool.false_eq_true, if_false]; exact hq.keep hV
              | true =>
                simp only [if_true]
                obtain ⟨b', e1, e2⟩ := RCo.neg hq
                injection e1 with e1
                subst e1
                exact e2.keep hV)
            clear h0 h2 h3 h4 h5 h6 h7 h8 h9 h10 h11 HRN
            generalize (mg n).length = nn at *
            generalize (dl m).length = dn at *
            have q0 : (0 : Int) ≤ (k : Int) := by omega
            have q1 : (k : Int) < (ts.length : Int) := by omega
            have q3 : ((k : Int)).toNat = k := by omega
            have hls : s.length = el.length := by have := HLV.out; have := hel.1; omega
            have hdo := dot_odd (el := el) (bit01_iff.1 HYES.out.2) (fun x hx => (low20_iff.1 hel.2.1 x hx).1) hls (by omega)
            have HDOT : Hid (∀ V, Below wo.heap.size wo V → Calls Tryz.prog 43 #[.slice E el.length ce, .slice S s.length cs] V fun e w' => e = .returned (.int .i64 (if oddT s el = true then 1 else 0)) ∧ Below V.heap.size V w') := Lib.hid (fun V h => by
              have := dot_any E S ce cs el s V (hIk.keep h) ((HS.out.keep hbD).keep (below_all hbr h)) (by omega) (by omega) (low20_iff.1 hel.2.1) (bit01_iff.1 HYES.out.2)
              rw [hdo] at this
              exact this.mono fun e w' ⟨h1, h2⟩ => ⟨h1, h2.below⟩)
            clear hdo hIk hls hel
            go_upto_region 11 with (fail)
            obtain ⟨W3, hW3⟩ : ∃ W3, wo.alloc (.cells #[.bool b, .slice N nn cn, .bool false, .slice D dn cd, .slice E el.length ce] 84) = W3 := ⟨_, rfl⟩
            have F10 : Blk W3 wo.heap.size 84 #[.bool b, .slice N nn cn, .bool false, .slice D dn cd, .slice E el.length ce] := by rw [← hW3]; exact Blk.new _ _ _
            have hbF : Below wo.heap.size wo W3 := by rw [← hW3]; exact (Below.refl _ _).alloc (Nat.le_refl _) _
            rw [hW3]
            clear hW3 k0 k1 k2 k3 k4 x0 x1
            obtain ⟨y0, y1, y2, y3, y4, z0, z1, z2, z3, z4⟩ := F10.five
            have HRG := Lib.hid (fun V => rneg6_any b false N D nn cn dn cd V hnp (by omega))
            go_upto_if 49 with (go_at_call 43; refine (HDOT.out _ hbF).mono ?_; rintro e w4 ⟨rfl, hb4⟩)
            have G10 := F10.keep hb4 F10.lt
            have hbG := below_all hbF hb4
            have hz4 := G10.lt
            clear F10 hbF hb4 y0 y1 y2 y3 y4 z0 z1 z2 z3 z4 HDOT
            obtain ⟨y0, y1, y2, y3, y4, z0, z1, z2, z3, z4⟩ := G10.five
            go_cut [50, 51, 52, 53] (fun s50 s51 s52 s53 wx => Below wo.heap.size wo wx ∧ Blk wx wo.heap.size 84 #[.bool (if oddT s el = true then !b else b), .slice N nn cn, .bool false, .slice D dn cd, .slice E el.length ce])
            case first =>
              cases ho : oddT s el with
              | false =>
                go_wp2
                go_meet
                exact ⟨hbG, by rw [ho]; exact G10⟩
              | true =>
                go_wp2_with (go_at_call 44; refine (HRG.out _).mono ?_; rintro e w5 ⟨rfl, hb5⟩
                             have H10 := G10.keep hb5 G10.lt
                             have hbH := below_all hbG hb5
                             obtain ⟨y0, y1, y2, y3, y4, z0, z1, z2, z3, z4⟩ := H10.five)
                go_meet
                refine ⟨below_far (below_far (below_far (below_far hbH (Nat.le_refl _) _ _) (Nat.le_refl _) _ _) (Nat.le_refl _) _ _) (Nat.le_refl _) _ _, ?_⟩
                rw [ho]
                exact (((H10.set 0 _).set 1 _).set 2 _).set 3 _
            case rest =>
              obtain ⟨hbx, H10⟩ := hcut
              obtain ⟨Z, rfl⟩ : ∃ Z : World, Z = wc := ⟨_, rfl⟩
              clear G10 hbG y0 y1 y2 y3 y4 z0 z1 z2 z3 z4
              have HNW0 := Lib.hid (HNEW.out Z (below_all hbr hbx))
              clear HNEW
              obtain ⟨bb, hbb⟩ : ∃ bb : Bool, (if oddT s el = true then !b else b) = bb := ⟨_, rfl⟩
              obtain ⟨cf2, hcf2⟩ : ∃ cf2, (if oddT s el = true then negB cf else cf) = cf2 := ⟨_, rfl⟩
              rw [hbb] at H10
              have HNW1 : Hid (RNm Z ⟨.bool bb, .slice N nn cn, .bool false, .slice D dn cd, E, ce, el⟩ cf2) := Lib.hid (by rw [← hbb, ← hcf2]; exact HNW0.out)
              have HAP2 : Hid (∀ h2 : k < tv.length, (appT s (TV.pl (tv[k]'h2))).1 = cf2) := Lib.hid (fun h2 => (HAP.out h2).trans hcf2)
              clear HNW0 HAP hbb hcf2
              have K8 := HST.out.b8.keep hbx HST.out.b8.lt
              have hownZ := own_below HST.out.own hbx (Nat.le_refl _)
              have HNUM : Hid (∀ (j : Nat) (h1 : j < rs.length) (h2 : j < tv.length), RNm Z rs[j] (appT s (TV.pl tv[j])).1) := Lib.hid (fun j h1 h2 => (HST.out.nums j h1 h2).keep hbx)
              have hbZ := below_all hbr hbx
              have hz5 := K8.lt
              have hz6 := H10.lt
              have hz7 := hbx.size
              clear hbx
              obtain ⟨y0, y1, y2, y3, y4, z0, z1, z2, z3, z4⟩ := H10.five
              obtain ⟨b0, b1, b2, b3⟩ := K8.two
              have HNW := Lib.hid (cells_new Z 84 [.bool bb, .slice N nn cn, .bool false, .slice D dn cd, .slice E el.length ce])
              go_wp2_with (at_builtin
                           refine wpList_append_own _ rfl _ _ 64 rfl (W1.heap.size + 1) 84 i0 _ 5 88 Tryz.underlying64 hi iz0 iz1 iz2 rfl (by decide) (.slice A rs.length c) rs.length _ rfl (hownZ.alloc _) ⟨Z.heap.size, 0, none⟩ 1 1 [.bool bb, .slice N nn cn, .bool false, .slice D dn cd, .slice E el.length ce] rfl rfl ?c1 ?c2 ?c3 ?c4 ?c5 ?_
                           case c1 => exact HNW.out
                           case c2 => simp [Value.oneCell']
                           case c3 => simp only [maxLen]; omega
                           case c4 => omega
                           case c5 => simp; omega
                           intro v' w5 hown' hgrow _
                           have L8 := Blk.grown (Blk.alloc K8 _) hgrow (own_blk_ne hownZ K8 (by decide))
                           obtain ⟨b0, b1, b2, b3⟩ := L8.two
                           obtain ⟨A2, cs2, hv2, _, _⟩ := Sl.of_own hown'
                           subst hv2)
              have HNX : Hid (∀ t s0, RNm Z t s0 → RNm (w5.setCell ⟨W1.heap.size, 1, none⟩ (.slice A2 (rs.length + 1) cs2)) t s0) := Lib.hid (fun t s0 h => RNm.far (RNm.grown (h.keep ((Below.refl _ _).alloc (Nat.le_refl _) _)) (hownZ.alloc _) hgrow (by decide)) L8 (by decide) _ _)
              have hbE5 := (hbZ.alloc hbZ.size (.cells #[.bool bb, .slice N nn cn, .bool false, .slice D dn cd, .slice E el.length ce] 84)).grown hgrow (by simp; omega) (fun j hj => by have := (hownZ.lt j hj).1; omega)
              go_roundw
              case rel =>
                have hrl := HRL.out
                refine ⟨k + 1, A2, cs2, rs ++ [⟨.bool bb, .slice N nn cn, .bool false, .slice D dn cd, E, ce, el⟩], by go_num, by omega, Lib.hid ⟨?_, ?_, ?_, ?_, ?_, ?_⟩⟩
                · rw [List.length_append, hrl]; rfl
                · intro q h1 h2
                  by_cases hq : q < rs.length
                  · rw [List.getElem_append_left hq]; exact HST.out.same q hq h2
                  · obtain rfl : q = k := by simp at h1; omega
                    rw [List.getElem_concat_length hrl.symm]
                    obtain ⟨e1, e2⟩ := HTS.out h2
                    exact ⟨e1.symm, e2.symm⟩
                · intro q h1 h2
                  by_cases hq : q < rs.length
                  · rw [List.getElem_append_left hq]; exact HNX.out _ _ (HNUM.out q hq h2)
                  · obtain rfl : q = k := by simp at h1; omega
                    rw [List.getElem_concat_length hrl.symm, HAP2.out h2]
                    exact HNX.out _ _ HNW1.out
                · exact below_far hbE5 (Nat.le_refl _) _ _
                · rw [List.length_append]; exact L8.set 1 _
                · rw [List.length_append, List.flatMap_append]; exact own_far hown' (own_blk_ne hown' L8 (by decide)) _
              case measure => simp [intOf]; omega
          · obtain rfl : k = ts.length := by omega
            have htl := HTL.out
            have hrl := HRL.out
            have hget : ∀ (j : Nat) (h1 : j < rs.length) (h2 : j < tv.length), rs[j].adr = tv[j].adr ∧ rs[j].exps = tv[j].exps := fun j h1 h2 => by
              obtain ⟨e1, e2⟩ := HST.out.same j h1 (by omega)
              obtain ⟨e3, _, e4⟩ := core_get HCORE.out (show j < ts.length by omega) h2
              exact ⟨e1.trans e3, e2.trans e4⟩
            have HW := Lib.hid (rwrite_any v A c rs (tv.map fun t => (appT s (TV.pl t)).1) wo (Sl.own HST.out.own) (fun t ht => by
                obtain ⟨j, hj, rfl⟩ := List.getElem_of_mem ht
                obtain ⟨e1, e2⟩ := hget j hj (by omega)
                rw [e1, e2]
                exact ((HA.out.keep hbD).ints tv[j] (List.getElem_mem _)).keep hbr) (by rw [List.length_map]; omega) (fun j h1 h2 => by
                rw [List.getElem_map]
                exact HST.out.nums j h1 (by simpa using h2)) (by omega) (fun t ht => by
                obtain ⟨j, hj, rfl⟩ := List.getElem_of_mem ht
                rw [(hget j hj (by omega)).2]
                exact (HSZ.out tv[j] (List.getElem_mem _)).2))
            have HPL : Hid (wrPl (tv.map fun t => (appT s (TV.pl t)).1) rs = (tv.map TV.pl).map (appT s)) := Lib.hid (by
              refine List.ext_getElem (by unfold wrPl; simp; omega) fun j h1 h2 => ?_
              have hj : j < tv.length := by simpa using h2
              have hj2 : j < rs.length := by omega
              have e1 : (wrPl (tv.map fun t => (appT s (TV.pl t)).1) rs)[j]'h1 = ((appT s (TV.pl tv[j])).1, rs[j].exps) := by
                simp [wrPl]
              rw [e1, List.getElem_map, List.getElem_map, (hget j hj2 hj).2]
              exact Prod.ext rfl (appT_exps s (TV.pl tv[j])).symm)
            clear hget htl hrl
            generalize (tv.map fun t => (appT s (TV.pl t)).1) = us at *
            obtain ⟨b0, b1, b2, b3⟩ := HST.out.b8.two
            have K4 := D4.keep hbr D4.lt
            have dk : decide (ts.length < ts.length) = false := by simp
            go_wp2_with (go_at_call 45; refine HW.out.mono ?_; rintro e w6 ⟨hb6, A6, c6, tv6, rfl, hT6, hpl6⟩
                         have L4 := K4.keep hb6 K4.lt
                         obtain ⟨d0, d1, d2, d3⟩ := L4.two)
            have hbL := below_all hbD (below_all hbr hb6)
            have hz8 := K4.lt
            refine bodyPost_ret (v := .tuple #[.agg #[.int .i64 v, .slice A6 tv6.length c6], .int .i64 0]) (by simp [results, Tryz.results22, go_sem, d0, d1]) rfl ⟨?_, .inr (.inr ⟨HYES.out, HLV.out, A6, c6, tv6, rfl, ((hT6.far hz8 _ _).far hz8 _ _).terms, by rw [hpl6, HPL.out]⟩)⟩
            exact below_far (below_far hbL (by omega) _ _) (by omega) _ _
      · have hne : ((s.length : Int) != v) = true := by simp [hlv]
        have hne' : ((s.length : Int) == v) = false := by simp [hlv]
        have HNE := Lib.hid hlv
        clear hlv
        go_wp2_with (go_at_call 42; refine HB.out.mono ?_; rintro e w' ⟨rfl, rfl⟩)
        refine bodyPost_ret (v := .tuple #[.agg #[.int .i64 0, .slice none 0 0], .int .i64 4]) (by simp [results, Tryz.results22, go_sem, d0, d1]) rfl ⟨?_, .inr (.inl ⟨HYES.out, HNE.out, rfl⟩)⟩
        exact below_far (below_far hbD (by omega) _ _) (by omega) _ _
end Go.Proofs.Tg
end
section
/- The harness's comparison of polynomials. -/
namespace Go.Proofs.Tg
open Go.RowKit Go.Mo
set_option maxHeartbeats 4000000
set_option maxRecDepth 100000
theorem polys_any (a b : PVal) (r : Bool) (w : World) (ha : TermsAt w a.adr a.tv) (hb : TermsAt w b.adr b.tv) (hr : r = true ↔ a.vars = b.vars ∧ a.tv.map TV.pl = b.tv.map TV.pl) (hn : a.tv.length ≤ 1000000) (hm : b.tv.length ≤ 1000000) (he : ∀ t ∈ a.tv, t.exps.length ≤ 1000000) :
    Calls Tryz.prog 23 #[.agg #[.int .i64 a.vars, .slice a.adr a.tv.length a.cap], .agg #[.int .i64 b.vars, .slice b.adr b.tv.length b.cap]] w fun e w' => e = .returned (.bool r) ∧ Below w.heap.size w w' := by
  obtain ⟨va, A, ca, ta⟩ := a
  obtain ⟨vb, B, cb, tb⟩ := b
  simp only at *
  have HR := Lib.hid hr
  have HE := Lib.hid he
  have HA := Lib.hid ha
  have HB := Lib.hid hb
  clear hr he ha hb
  obtain ⟨W, hW⟩ : ∃ W, (w.alloc (.cells #[.int .i64 va, .slice A ta.length ca] 36)).alloc (.cells #[.int .i64 vb, .slice B tb.length cb] 36) = W := ⟨_, rfl⟩
  have B2 : Blk W w.heap.size 36 #[.int .i64 va, .slice A ta.length ca] := by rw [← hW]; exact (Blk.new _ _ _).alloc _
  have B3 : Blk W (w.heap.size + 1) 36 #[.int .i64 vb, .slice B tb.length cb] := by
    rw [← hW]; have := Blk.new (w.alloc (.cells #[.int .i64 va, .slice A ta.length ca] 36)) 36 #[.int .i64 vb, .slice B tb.length cb]
    simpa using this
  have hbW : Below w.heap.size w W := by rw [← hW]; exact ((Below.refl _ _).alloc (Nat.le_refl _) _).alloc (by simp) _
  have HWW := Lib.hid hW
  clear hW
  obtain ⟨a0, a1, _, _⟩ := B2.two
  obtain ⟨c0, c1, _, _⟩ := B3.two
  go_enter Tryz.func23, Tryz.ntmps23
  go_upto_region 1 with (fail)
  rw [HWW.out]
  by_cases hv : va = vb
  · have hvb : (va != vb) = false := by simp [hv]
    by_cases hl : ta.length = tb.length
    · have hlb : ((ta.length : Int) != (tb.length : Int)) = false := by simp [hl]
      have hlb' : (ta.length != tb.length) = false := by simp [hl]
      have HL := Lib.hid hl
      have HVE := Lib.hid hv
      clear hl hv
      go_wp2
      go_loopw [5] (fun s5 wr => ∃ k : Nat, s5 = .int .i64 k ∧ k ≤ ta.length ∧ Hid ((ta.take k).map TV.pl = (tb.take k).map TV.pl) ∧ Below W.heap.size W wr) (fun s5 _ => ta.length - (intOf s5).toNat)
      case atStart => exact ⟨0, rfl, Nat.zero_le _, Lib.hid rfl, Below.refl _ _⟩
      case round =>
        clear a0 a1 c0 c1
        obtain ⟨wo, rfl⟩ : ∃ wo : World, wo = wr := ⟨_, rfl⟩
        obtain ⟨k, rfl, hk, HK, hbr⟩ := hrel
        have C2 := B2.keep hbr B2.lt
        have C3 := B3.keep hbr B3.lt
        obtain ⟨a0, a1, _, _⟩ := C2.two
        obtain ⟨c0, c1, _, _⟩ := C3.two
        have hbo := below_all hbW hbr
        by_cases hkl : k < ta.length
        · have hkl2 : k < tb.length := by have := HL.out; omega
          obtain ⟨ad, rfl, x0, x1, hI⟩ := TermsAt.at (HA.out.keep hbo) hkl
          obtain ⟨bd, rfl, y0, y1, hJ⟩ := TermsAt.at (HB.out.keep hbo) hkl2
          have HT1 : Hid (ta.take (k + 1) = ta.take k ++ [ta[k]]) := Lib.hid (List.take_succ_eq_append_getElem hkl)
          have HT2 : Hid (tb.take (k + 1) = tb.take k ++ [tb[k]]) := Lib.hid (List.take_succ_eq_append_getElem hkl2)
          have HAT : Hid (∀ h : ta.map TV.pl = tb.map TV.pl, TV.pl ta[k] = TV.pl tb[k]) := Lib.hid (fun h => by
            have : (ta.map TV.pl)[k]? = (tb.map TV.pl)[k]? := by rw [h]
            simpa [hkl, hkl2] using this)
          have hel := HE.out ta[k] (List.getElem_mem _)
          generalize ta[k] = t at *
          generalize tb[k] = u at *
          obtain ⟨s, E, ce, el⟩ := t
          obtain ⟨s', E', ce', el'⟩ := u
          simp only [TV.pl] at *
          have q0 : (0 : Int) ≤ (k : Int) := by omega
          have q1 : (k : Int) < (ta.length : Int) := by omega
          have q2 : (k : Int) < (tb.length : Int) := by omega
          have q3 : ((k : Int)).toNat = k := by omega
          have HI := Lib.hid (fun V (h : Dr wo V) => ints_any E E' el el' ce ce' V (hI.keep h.below) (hJ.keep h.below) hel)
          by_cases hs : s = s'
          · subst hs
            by_cases he2 : el = el'
            · have HI2 : Hid (∀ V, Dr wo V → Calls Tryz.prog 18 #[.slice E el.length ce, .slice E' el'.length ce'] V fun e w' => e = .returned (.bool true) ∧ Dr V w') := Lib.hid (fun V h => by
                have := HI.out V h
                rwa [decide_eq_true he2] at this)
              have HK2 : Hid ((ta.take (k + 1)).map TV.pl = (tb.take (k + 1)).map TV.pl) := Lib.hid (by
                rw [HT1.out, HT2.out, List.map_append, List.map_append, HK.out]
                simp [TV.pl, he2])
              clear he2 HI HAT
              go_wp2
              go_quiet ((go_at_call 18; exact Calls.quiet_of (HI2.out _ ⟨_, rfl⟩)))
              go_wp2
              go_roundw
              case rel => exact ⟨k + 1, by go_num, by omega, HK2, below_drewN hbr _⟩
              case measure => simp [intOf]; omega
            · have HI2 : Hid (∀ V, Dr wo V → Calls Tryz.prog 18 #[.slice E el.length ce, .slice E' el'.length ce'] V fun e w' => e = .returned (.bool false) ∧ Dr V w') := Lib.hid (fun V h => by
                have := HI.out V h
                rwa [decide_eq_false he2] at this)
              obtain rfl : r = false := by
                apply eq_false_of_ne_true
                intro h
                have := HAT.out (HR.out.1 h).2
                injection this with _ h2
                exact he2 h2
              clear he2 HI HAT
              go_wp2
              go_quiet ((go_at_call 18; exact Calls.quiet_of (HI2.out _ ⟨_, rfl⟩)))
              go_wp2
              go_ret
              exact ⟨rfl, below_all hbW (below_drewN hbr _)⟩
          · have hsl : ¬ s.toList = s'.toList := by
              rw [Lib.toList_data, Lib.toList_data]
              intro h
              apply hs
              rw [← bs_self s, ← bs_self s', h]
            have hs1 : (s.toList == s'.toList) = false := by simpa using hsl
            have hs4 : (s.toList != s'.toList) = true := by simpa using hsl
            obtain rfl : r = false := by
              apply eq_false_of_ne_true
              intro h
              have := HAT.out (HR.out.1 h).2
              injection this with h2 _
              exact hs h2
            clear HI HAT
            go_wp2
            go_quiet (fail)
            go_wp2
            go_ret
            exact ⟨rfl, below_all hbW (below_drewN hbr _)⟩
        · obtain rfl : k = ta.length := by omega
          obtain rfl : r = true := HR.out.2 ⟨HVE.out, by
            have h := HK.out
            rw [List.take_length, HL.out, List.take_length] at h
            exact h⟩
          have dd : decide (ta.length < ta.length) = false := by simp
          go_wp2
          go_ret
          exact ⟨rfl, hbo⟩
    · have hlb : ((ta.length : Int) != (tb.length : Int)) = true := by simp; omega
      have hlb' : (ta.length != tb.length) = true := by simp [hl]
      obtain rfl : r = false := by
        apply eq_false_of_ne_true
        intro h
        have := congrArg List.length (HR.out.1 h).2
        simp at this
        exact hl this
      clear hl
      go_wp2
      go_ret
      exact ⟨rfl, hbW⟩
  · have hvb : (va != vb) = true := by simp [hv]
    obtain rfl : r = false := by
      apply eq_false_of_ne_true
      intro h
      exact hv (HR.out.1 h).1
    clear hv
    go_wp2
    go_ret
    exact ⟨rfl, hbW⟩
end Go.Proofs.Tg
end
