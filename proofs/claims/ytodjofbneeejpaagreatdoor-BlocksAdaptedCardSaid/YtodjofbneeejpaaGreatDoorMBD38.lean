/- Parts of the proof: LD11, LD12, LD13, LD14, LD15. -/
import Derived.Test.YtodjofbneeejpaaGreatDoorMBD37
section
/- The law BlocksAdapted, case 1 (printed by wip/tools/mk_lawadapted.py). -/
namespace Go.Proofs.Tg.Bk
open Go.RowKit Go.Gr Go.Sp Go.Ev Go.Pm Go.Mo
open Go.Proofs.Tg.Gp (rinvs_any RetInv)
open Go.Proofs.Tg.Rf (radapted_any)
set_option maxHeartbeats 40000000
set_option maxRecDepth 100000
theorem law_ad1 (z : Int) (A B G L : Option Addr) (ca cb cg cl : Nat) (a b : List Int) (both : Bool) (g l : List (List Int)) (w : World) (hA : Ints w A a) (hB : Ints w B b) (hG : Lists w G g) (hL : Lists w L l) (hT : PT w) (h20 : ∀ x ∈ [a, b], x.length ≤ 20) (hg8 : g.length ≤ 6 ∧ ∀ l ∈ g, l.length ≤ 8) (hl10 : l.length ≤ 10 ∧ ∀ m ∈ l, m.length ≤ 8) (hl0 : 0 < l.length) :
    Calls Tryz.prog 3 #[.int .i64 z, .slice A a.length ca, .slice B b.length cb, .bool both, .slice G g.length cg, .slice L l.length cl, .bool false] w fun e w' => e = .returned (.bool true) ∧ Below w.heap.size w w' := by
  have hal := Below.alloc (Below.refl w.heap.size w) (Nat.le_refl _) (.cells #[.slice A a.length ca, .slice B b.length cb] 22)
  have HAB := Lib.hid (lists_ab (ca := ca) (cb := cb) hA hB)
  have HA := Lib.hid hA
  have HB := Lib.hid hB
  have HG := Lib.hid hG
  have HL := Lib.hid hL
  have HT := Lib.hid hT
  have HAW := Lib.hid (fun V (h : Below w.heap.size w V) => awake19_any V (hT.keep h))
  have HF := Lib.hid (few19_any (some ⟨w.heap.size, 0, none⟩) 2 [a, b] true _ HAB.out (by simp) ⟨fun _ => h20, fun _ => rfl⟩)
  have HSM := Lib.hid (fun V (h : Lists V G g) => Go.Proofs.Tg.small_any G cg 6 8 g true V h ⟨fun _ => hg8, fun _ => rfl⟩ (by omega))
  have HSL := Lib.hid (fun V (h : Lists V L l) => Go.Proofs.Tg.small_any L cl 10 8 l true V h ⟨fun _ => hl10, fun _ => rfl⟩ (by omega))
  clear hA hB hG hL hT HAB
  obtain ⟨g8, gw⟩ := hg8
  obtain ⟨l10, lw⟩ := hl10
  have ha20 := h20 a (by simp)
  have hb20 := h20 b (by simp)
  have HGW := Lib.hid gw
  have HLW := Lib.hid lw
  have HMD := Lib.hid (fun V (h : Below w.heap.size w V) => made_any A B ca cb z a b both V (HA.out.keep h) (HB.out.keep h) (by omega) (by omega))
  clear h20 gw lw
  go_enter Tryz.func3, Tryz.ntmps3
  go_upto_region 4 with (first
    | (go_at_call 6; refine HF.out.mono ?_; rintro e w2 ⟨rfl, rfl⟩)
    | (go_at_call 7; with_reducible refine Calls.mono (HSM.out _ (HG.out.keep hal)) ?_; rintro e w3 ⟨rfl, rfl⟩)
    | (go_at_call 7; with_reducible refine Calls.mono (HSL.out _ (HL.out.keep hal)) ?_; rintro e w3 ⟨rfl, rfl⟩)
    | (go_at_call 9; refine (HMD.out _ hal).mono ?_; rintro e w4 ⟨H, Bs, cH, cB, n, S, bs, rfl, hS, hBs, _, hn4, hI, hln, hbs, hb4⟩; have HBB := Lib.hid hbs; clear hbs))
  have hbs := HBB.out
  have hb04 := below_all hal hb4
  have HAS : Hid (GrpArg w4 H S) := Lib.hid (made_arg hS hn4 hI hln)
  have HRI := Lib.hid (rinvs_any H cH S w4 HAS.out.at' HAS.out.len HAS.out.wid HAS.out.few)
  have HBS4 : Hid (Lists w4 Bs bs ∧ bs.length ≤ 10 ∧ ∀ m ∈ bs, m.length ≤ 1000) := Lib.hid ⟨hBs, by rw [hbs]; unfold bsTo; split <;> simp <;> omega, fun m hm => by rw [hbs] at hm; rw [bsTo_len hm]; omega⟩
  clear hS hBs hI hln hb4 hn4 hbs HBB HMD HF HSM HSL HA HB
  go_upto_region 5 with (go_at_call 10; refine HRI.out.mono ?_; rintro e w5 h5
                         obtain ⟨A5, c5, xs, z5, rfl, hL5, hb5, hz5⟩ := inv_split h5
                         have HZ5 := Lib.hid hz5
                         clear hz5 h5)
  have hb05 := below_all hb04 hb5
  have HAI : Hid (Lists w5 A5 xs ∧ xs.length ≤ 6 ∧ ∀ x ∈ xs, x.length ≤ 1000) := Lib.hid ⟨hL5, by
   rcases HZ5.out with ⟨_, rfl, _⟩ | ⟨h1, rfl, _⟩
   ·simp
   ·exact invs_six h1 (HAS.out.few h1), fun x hx => by
   rcases HZ5.out with ⟨_, rfl, _⟩ | ⟨h1, rfl, _⟩
   ·cases hx
   ·exact HAS.out.wid x (invs_mem _ _ x hx)⟩
  have HGI : Hid (Lists w5 G g ∧ g.length ≤ 6 ∧ ∀ x ∈ g, x.length ≤ 1000) := Lib.hid ⟨HG.out.keep hb05, g8, fun m hm => by have := HGW.out m hm; omega⟩
  have HBS : Hid (Lists w5 Bs bs ∧ bs.length ≤ 10 ∧ ∀ m ∈ bs, m.length ≤ 1000) := Lib.hid ⟨HBS4.out.1.keep hb5, HBS4.out.2⟩
  have HLS : Hid (Lists w5 L l ∧ l.length ≤ 10 ∧ ∀ m ∈ l, m.length ≤ 1000) := Lib.hid ⟨HL.out.keep hb05, l10, fun m hm => by have := HLW.out m hm; omega⟩
  clear HBS4 HG HL hal HGW HLW HRI HAS HZ5 hL5 hb5 hb04
  have i0 : (0 : Int) < (l.length : Int) := by omega
  have d0 : decide ((0 : Int) < (l.length : Int)) = true := decide_eq_true i0
  have d1 : decide (0 < l.length) = true := decide_eq_true hl0
  obtain ⟨X1, X2, X3⟩ := HAI.out
  obtain ⟨Y1, Y2, Y3⟩ := HLS.out
  have HA1 := Lib.hid (adapted_any A5 L c5 cl xs l w5 X1 Y1 X2 (by omega) X3 Y3 (HT.out.keep hb05) (fun h => adapt_signs h))
  have HA2 := Lib.hid (fun V (h : Below w5.heap.size w5 V) => radapted_any A5 L c5 cl xs l V (X1.keep h) (Y1.keep h) X2 (by omega) X3 Y3)
  have HX2 := Lib.hid X2
  have HY2 := Lib.hid Y2
  clear X1 X2 X3 Y1 Y2 Y3 HAI HGI HBS HLS HT
  go_upto_region 10 with (go_at_call 11; refine HA1.out.mono ?_; rintro e w6 h6
                          obtain ⟨A6, c6, cs, rfl, ho6, hr6, hb6, hx6⟩ := ad_split h6
                          have HX6 := Lib.hid hx6
                          clear hx6 h6)
  go_upto_region 11 with (go_at_call 12; refine (HA2.out _ hb6).mono ?_; rintro e w7 h7
                          obtain ⟨A7, c7, ds, rfl, ho7, hr7, hb7, hx7⟩ := ad_split h7
                          have HX7 := Lib.hid hx7
                          clear hx7 h7)
  have HSC := Lib.hid (changes_same A6 A7 c6 c7 l.length w5.heap.size w6.heap.size cs ds w7 (own_below ho6 hb7 (Nat.le_refl _)) (fun c hc => own_below (hr6 c hc) hb7 (Nat.le_refl _)) ho7 hr7 (HX6.out.trans HX7.out.symm) (ad_rows (by have := HY2.out; omega) HX6.out) (ad_count HX2.out HX6.out))
  have hb07 := below_all hb05 (below_all hb6 hb7)
  clear HX6 HX7 ho6 ho7 hr6 hr7 hb6 hb7 HA1 HA2 HX2 HY2
  generalize adE xs l = ez at *
  go_wp2_with (first
    | (go_at_call 13; refine HSC.out.mono ?_; rintro e w8 ⟨rfl, hb8⟩
       have hb08 := below_all hb07 hb8)
    | (go_at_call 8; refine (HAW.out _ hb08).mono ?_; rintro e w9 ⟨rfl, hb9⟩))
  go_ret
  exact ⟨rfl, below_all hb08 hb9⟩
end Go.Proofs.Tg.Bk
end
section
/- The law BlocksAdapted, case 2 (printed by wip/tools/mk_lawadapted.py). -/
namespace Go.Proofs.Tg.Bk
open Go.RowKit Go.Gr Go.Sp Go.Ev Go.Pm Go.Mo
open Go.Proofs.Tg.Gp (rinvs_any RetInv)
open Go.Proofs.Tg.Rf (radapted_any)
set_option maxHeartbeats 40000000
set_option maxRecDepth 100000
theorem law_ad2 (z : Int) (A B G L : Option Addr) (ca cb cg cl : Nat) (a b : List Int) (both : Bool) (g l : List (List Int)) (w : World) (hA : Ints w A a) (hB : Ints w B b) (hG : Lists w G g) (hL : Lists w L l) (hT : PT w) (h20 : ∀ x ∈ [a, b], x.length ≤ 20) (hg8 : g.length ≤ 6 ∧ ∀ l ∈ g, l.length ≤ 8) (hl10 : l.length ≤ 10 ∧ ∀ m ∈ l, m.length ≤ 8) (hl0 : 0 < l.length) :
    Calls Tryz.prog 3 #[.int .i64 z, .slice A a.length ca, .slice B b.length cb, .bool both, .slice G g.length cg, .slice L l.length cl, .bool true] w fun e w' => e = .returned (.bool true) ∧ Below w.heap.size w w' := by
  have hal := Below.alloc (Below.refl w.heap.size w) (Nat.le_refl _) (.cells #[.slice A a.length ca, .slice B b.length cb] 22)
  have HAB := Lib.hid (lists_ab (ca := ca) (cb := cb) hA hB)
  have HA := Lib.hid hA
  have HB := Lib.hid hB
  have HG := Lib.hid hG
  have HL := Lib.hid hL
  have HT := Lib.hid hT
  have HAW := Lib.hid (fun V (h : Below w.heap.size w V) => awake19_any V (hT.keep h))
  have HF := Lib.hid (few19_any (some ⟨w.heap.size, 0, none⟩) 2 [a, b] true _ HAB.out (by simp) ⟨fun _ => h20, fun _ => rfl⟩)
  have HSM := Lib.hid (fun V (h : Lists V G g) => Go.Proofs.Tg.small_any G cg 6 8 g true V h ⟨fun _ => hg8, fun _ => rfl⟩ (by omega))
  have HSL := Lib.hid (fun V (h : Lists V L l) => Go.Proofs.Tg.small_any L cl 10 8 l true V h ⟨fun _ => hl10, fun _ => rfl⟩ (by omega))
  clear hA hB hG hL hT HAB
  obtain ⟨g8, gw⟩ := hg8
  obtain ⟨l10, lw⟩ := hl10
  have ha20 := h20 a (by simp)
  have hb20 := h20 b (by simp)
  have HGW := Lib.hid gw
  have HLW := Lib.hid lw
  have HMD := Lib.hid (fun V (h : Below w.heap.size w V) => made_any A B ca cb z a b both V (HA.out.keep h) (HB.out.keep h) (by omega) (by omega))
  clear h20 gw lw
  go_enter Tryz.func3, Tryz.ntmps3
  go_upto_region 4 with (first
    | (go_at_call 6; refine HF.out.mono ?_; rintro e w2 ⟨rfl, rfl⟩)
    | (go_at_call 7; with_reducible refine Calls.mono (HSM.out _ (HG.out.keep hal)) ?_; rintro e w3 ⟨rfl, rfl⟩)
    | (go_at_call 7; with_reducible refine Calls.mono (HSL.out _ (HL.out.keep hal)) ?_; rintro e w3 ⟨rfl, rfl⟩)
    | (go_at_call 9; refine (HMD.out _ hal).mono ?_; rintro e w4 ⟨H, Bs, cH, cB, n, S, bs, rfl, hS, hBs, _, hn4, hI, hln, hbs, hb4⟩; have HBB := Lib.hid hbs; clear hbs))
  have hbs := HBB.out
  have hb04 := below_all hal hb4
  have HAS : Hid (GrpArg w4 H S) := Lib.hid (made_arg hS hn4 hI hln)
  have HRI := Lib.hid (rinvs_any H cH S w4 HAS.out.at' HAS.out.len HAS.out.wid HAS.out.few)
  have HBS4 : Hid (Lists w4 Bs bs ∧ bs.length ≤ 10 ∧ ∀ m ∈ bs, m.length ≤ 1000) := Lib.hid ⟨hBs, by rw [hbs]; unfold bsTo; split <;> simp <;> omega, fun m hm => by rw [hbs] at hm; rw [bsTo_len hm]; omega⟩
  clear hS hBs hI hln hb4 hn4 hbs HBB HMD HF HSM HSL HA HB
  go_upto_region 5 with (go_at_call 10; refine HRI.out.mono ?_; rintro e w5 h5
                         obtain ⟨A5, c5, xs, z5, rfl, hL5, hb5, hz5⟩ := inv_split h5
                         have HZ5 := Lib.hid hz5
                         clear hz5 h5)
  have hb05 := below_all hb04 hb5
  have HAI : Hid (Lists w5 A5 xs ∧ xs.length ≤ 6 ∧ ∀ x ∈ xs, x.length ≤ 1000) := Lib.hid ⟨hL5, by
   rcases HZ5.out with ⟨_, rfl, _⟩ | ⟨h1, rfl, _⟩
   ·simp
   ·exact invs_six h1 (HAS.out.few h1), fun x hx => by
   rcases HZ5.out with ⟨_, rfl, _⟩ | ⟨h1, rfl, _⟩
   ·cases hx
   ·exact HAS.out.wid x (invs_mem _ _ x hx)⟩
  have HGI : Hid (Lists w5 G g ∧ g.length ≤ 6 ∧ ∀ x ∈ g, x.length ≤ 1000) := Lib.hid ⟨HG.out.keep hb05, g8, fun m hm => by have := HGW.out m hm; omega⟩
  have HBS : Hid (Lists w5 Bs bs ∧ bs.length ≤ 10 ∧ ∀ m ∈ bs, m.length ≤ 1000) := Lib.hid ⟨HBS4.out.1.keep hb5, HBS4.out.2⟩
  have HLS : Hid (Lists w5 L l ∧ l.length ≤ 10 ∧ ∀ m ∈ l, m.length ≤ 1000) := Lib.hid ⟨HL.out.keep hb05, l10, fun m hm => by have := HLW.out m hm; omega⟩
  clear HBS4 HG HL hal HGW HLW HRI HAS HZ5 hL5 hb5 hb04
  have i0 : (0 : Int) < (l.length : Int) := by omega
  have d0 : decide ((0 : Int) < (l.length : Int)) = true := decide_eq_true i0
  have d1 : decide (0 < l.length) = true := decide_eq_true hl0
  obtain ⟨X1, X2, X3⟩ := HGI.out
  obtain ⟨Y1, Y2, Y3⟩ := HLS.out
  have HA1 := Lib.hid (adapted_any G L cg cl g l w5 X1 Y1 X2 (by omega) X3 Y3 (HT.out.keep hb05) (fun h => adapt_signs h))
  have HA2 := Lib.hid (fun V (h : Below w5.heap.size w5 V) => radapted_any G L cg cl g l V (X1.keep h) (Y1.keep h) X2 (by omega) X3 Y3)
  have HX2 := Lib.hid X2
  have HY2 := Lib.hid Y2
  clear X1 X2 X3 Y1 Y2 Y3 HAI HGI HBS HLS HT
  go_upto_region 10 with (go_at_call 11; refine HA1.out.mono ?_; rintro e w6 h6
                          obtain ⟨A6, c6, cs, rfl, ho6, hr6, hb6, hx6⟩ := ad_split h6
                          have HX6 := Lib.hid hx6
                          clear hx6 h6)
  go_upto_region 11 with (go_at_call 12; refine (HA2.out _ hb6).mono ?_; rintro e w7 h7
                          obtain ⟨A7, c7, ds, rfl, ho7, hr7, hb7, hx7⟩ := ad_split h7
                          have HX7 := Lib.hid hx7
                          clear hx7 h7)
  have HSC := Lib.hid (changes_same A6 A7 c6 c7 l.length w5.heap.size w6.heap.size cs ds w7 (own_below ho6 hb7 (Nat.le_refl _)) (fun c hc => own_below (hr6 c hc) hb7 (Nat.le_refl _)) ho7 hr7 (HX6.out.trans HX7.out.symm) (ad_rows (by have := HY2.out; omega) HX6.out) (ad_count HX2.out HX6.out))
  have hb07 := below_all hb05 (below_all hb6 hb7)
  clear HX6 HX7 ho6 ho7 hr6 hr7 hb6 hb7 HA1 HA2 HX2 HY2
  generalize adE g l = ez at *
  go_wp2_with (first
    | (go_at_call 13; refine HSC.out.mono ?_; rintro e w8 ⟨rfl, hb8⟩
       have hb08 := below_all hb07 hb8)
    | (go_at_call 8; refine (HAW.out _ hb08).mono ?_; rintro e w9 ⟨rfl, hb9⟩))
  go_ret
  exact ⟨rfl, below_all hb08 hb9⟩
end Go.Proofs.Tg.Bk
end
section
/- The law BlocksAdapted, case 3 (printed by wip/tools/mk_lawadapted.py). -/
namespace Go.Proofs.Tg.Bk
open Go.RowKit Go.Gr Go.Sp Go.Ev Go.Pm Go.Mo
open Go.Proofs.Tg.Gp (rinvs_any RetInv)
open Go.Proofs.Tg.Rf (radapted_any)
set_option maxHeartbeats 40000000
set_option maxRecDepth 100000
theorem law_ad3 (z : Int) (A B G L : Option Addr) (ca cb cg cl : Nat) (a b : List Int) (both : Bool) (g l : List (List Int)) (w : World) (hA : Ints w A a) (hB : Ints w B b) (hG : Lists w G g) (hL : Lists w L l) (hT : PT w) (h20 : ∀ x ∈ [a, b], x.length ≤ 20) (hg8 : g.length ≤ 6 ∧ ∀ l ∈ g, l.length ≤ 8) (hl10 : l.length ≤ 10 ∧ ∀ m ∈ l, m.length ≤ 8) (hl0 : ¬ 0 < l.length) :
    Calls Tryz.prog 3 #[.int .i64 z, .slice A a.length ca, .slice B b.length cb, .bool both, .slice G g.length cg, .slice L l.length cl, .bool false] w fun e w' => e = .returned (.bool true) ∧ Below w.heap.size w w' := by
  have hal := Below.alloc (Below.refl w.heap.size w) (Nat.le_refl _) (.cells #[.slice A a.length ca, .slice B b.length cb] 22)
  have HAB := Lib.hid (lists_ab (ca := ca) (cb := cb) hA hB)
  have HA := Lib.hid hA
  have HB := Lib.hid hB
  have HG := Lib.hid hG
  have HL := Lib.hid hL
  have HT := Lib.hid hT
  have HAW := Lib.hid (fun V (h : Below w.heap.size w V) => awake19_any V (hT.keep h))
  have HF := Lib.hid (few19_any (some ⟨w.heap.size, 0, none⟩) 2 [a, b] true _ HAB.out (by simp) ⟨fun _ => h20, fun _ => rfl⟩)
  have HSM := Lib.hid (fun V (h : Lists V G g) => Go.Proofs.Tg.small_any G cg 6 8 g true V h ⟨fun _ => hg8, fun _ => rfl⟩ (by omega))
  have HSL := Lib.hid (fun V (h : Lists V L l) => Go.Proofs.Tg.small_any L cl 10 8 l true V h ⟨fun _ => hl10, fun _ => rfl⟩ (by omega))
  clear hA hB hG hL hT HAB
  obtain ⟨g8, gw⟩ := hg8
  obtain ⟨l10, lw⟩ := hl10
  have ha20 := h20 a (by simp)
  have hb20 := h20 b (by simp)
  have HGW := Lib.hid gw
  have HLW := Lib.hid lw
  have HMD := Lib.hid (fun V (h : Below w.heap.size w V) => made_any A B ca cb z a b both V (HA.out.keep h) (HB.out.keep h) (by omega) (by omega))
  clear h20 gw lw
  go_enter Tryz.func3, Tryz.ntmps3
  go_upto_region 4 with (first
    | (go_at_call 6; refine HF.out.mono ?_; rintro e w2 ⟨rfl, rfl⟩)
    | (go_at_call 7; with_reducible refine Calls.mono (HSM.out _ (HG.out.keep hal)) ?_; rintro e w3 ⟨rfl, rfl⟩)
    | (go_at_call 7; with_reducible refine Calls.mono (HSL.out _ (HL.out.keep hal)) ?_; rintro e w3 ⟨rfl, rfl⟩)
    | (go_at_call 9; refine (HMD.out _ hal).mono ?_; rintro e w4 ⟨H, Bs, cH, cB, n, S, bs, rfl, hS, hBs, _, hn4, hI, hln, hbs, hb4⟩; have HBB := Lib.hid hbs; clear hbs))
  have hbs := HBB.out
  have hb04 := below_all hal hb4
  have HAS : Hid (GrpArg w4 H S) := Lib.hid (made_arg hS hn4 hI hln)
  have HRI := Lib.hid (rinvs_any H cH S w4 HAS.out.at' HAS.out.len HAS.out.wid HAS.out.few)
  have HBS4 : Hid (Lists w4 Bs bs ∧ bs.length ≤ 10 ∧ ∀ m ∈ bs, m.length ≤ 1000) := Lib.hid ⟨hBs, by rw [hbs]; unfold bsTo; split <;> simp <;> omega, fun m hm => by rw [hbs] at hm; rw [bsTo_len hm]; omega⟩
  clear hS hBs hI hln hb4 hn4 hbs HBB HMD HF HSM HSL HA HB
  go_upto_region 5 with (go_at_call 10; refine HRI.out.mono ?_; rintro e w5 h5
                         obtain ⟨A5, c5, xs, z5, rfl, hL5, hb5, hz5⟩ := inv_split h5
                         have HZ5 := Lib.hid hz5
                         clear hz5 h5)
  have hb05 := below_all hb04 hb5
  have HAI : Hid (Lists w5 A5 xs ∧ xs.length ≤ 6 ∧ ∀ x ∈ xs, x.length ≤ 1000) := Lib.hid ⟨hL5, by
   rcases HZ5.out with ⟨_, rfl, _⟩ | ⟨h1, rfl, _⟩
   ·simp
   ·exact invs_six h1 (HAS.out.few h1), fun x hx => by
   rcases HZ5.out with ⟨_, rfl, _⟩ | ⟨h1, rfl, _⟩
   ·cases hx
   ·exact HAS.out.wid x (invs_mem _ _ x hx)⟩
  have HGI : Hid (Lists w5 G g ∧ g.length ≤ 6 ∧ ∀ x ∈ g, x.length ≤ 1000) := Lib.hid ⟨HG.out.keep hb05, g8, fun m hm => by have := HGW.out m hm; omega⟩
  have HBS : Hid (Lists w5 Bs bs ∧ bs.length ≤ 10 ∧ ∀ m ∈ bs, m.length ≤ 1000) := Lib.hid ⟨HBS4.out.1.keep hb5, HBS4.out.2⟩
  have HLS : Hid (Lists w5 L l ∧ l.length ≤ 10 ∧ ∀ m ∈ l, m.length ≤ 1000) := Lib.hid ⟨HL.out.keep hb05, l10, fun m hm => by have := HLW.out m hm; omega⟩
  clear HBS4 HG HL hal HGW HLW HRI HAS HZ5 hL5 hb5 hb04
  obtain rfl : l = [] := List.eq_nil_of_length_eq_zero (by omega)
  clear hl0 HLS l10
  obtain ⟨X1, X2, X3⟩ := HAI.out
  obtain ⟨Y1, Y2, Y3⟩ := HBS.out
  have HA1 := Lib.hid (adapted_any A5 Bs c5 cB xs bs w5 X1 Y1 X2 (by omega) X3 Y3 (HT.out.keep hb05) (fun h => adapt_signs h))
  have HA2 := Lib.hid (fun V (h : Below w5.heap.size w5 V) => radapted_any A5 Bs c5 cB xs bs V (X1.keep h) (Y1.keep h) X2 (by omega) X3 Y3)
  have HX2 := Lib.hid X2
  have HY2 := Lib.hid Y2
  clear X1 X2 X3 Y1 Y2 Y3 HAI HGI HBS HT
  go_upto_region 10 with (go_at_call 11; refine HA1.out.mono ?_; rintro e w6 h6
                          obtain ⟨A6, c6, cs, rfl, ho6, hr6, hb6, hx6⟩ := ad_split h6
                          have HX6 := Lib.hid hx6
                          clear hx6 h6)
  go_upto_region 11 with (go_at_call 12; refine (HA2.out _ hb6).mono ?_; rintro e w7 h7
                          obtain ⟨A7, c7, ds, rfl, ho7, hr7, hb7, hx7⟩ := ad_split h7
                          have HX7 := Lib.hid hx7
                          clear hx7 h7)
  have HSC := Lib.hid (changes_same A6 A7 c6 c7 bs.length w5.heap.size w6.heap.size cs ds w7 (own_below ho6 hb7 (Nat.le_refl _)) (fun c hc => own_below (hr6 c hc) hb7 (Nat.le_refl _)) ho7 hr7 (HX6.out.trans HX7.out.symm) (ad_rows (by have := HY2.out; omega) HX6.out) (ad_count HX2.out HX6.out))
  have hb07 := below_all hb05 (below_all hb6 hb7)
  clear HX6 HX7 ho6 ho7 hr6 hr7 hb6 hb7 HA1 HA2 HX2 HY2
  generalize adE xs bs = ez at *
  go_wp2_with (first
    | (go_at_call 13; refine HSC.out.mono ?_; rintro e w8 ⟨rfl, hb8⟩
       have hb08 := below_all hb07 hb8)
    | (go_at_call 8; refine (HAW.out _ hb08).mono ?_; rintro e w9 ⟨rfl, hb9⟩))
  go_ret
  exact ⟨rfl, below_all hb08 hb9⟩
end Go.Proofs.Tg.Bk
end
section
/- The law BlocksAdapted, case 4 (printed by wip/tools/mk_lawadapted.py). -/
namespace Go.Proofs.Tg.Bk
open Go.RowKit Go.Gr Go.Sp Go.Ev Go.Pm Go.Mo
open Go.Proofs.Tg.Gp (rinvs_any RetInv)
open Go.Proofs.Tg.Rf (radapted_any)
set_option maxHeartbeats 40000000
set_option maxRecDepth 100000
theorem law_ad4 (z : Int) (A B G L : Option Addr) (ca cb cg cl : Nat) (a b : List Int) (both : Bool) (g l : List (List Int)) (w : World) (hA : Ints w A a) (hB : Ints w B b) (hG : Lists w G g) (hL : Lists w L l) (hT : PT w) (h20 : ∀ x ∈ [a, b], x.length ≤ 20) (hg8 : g.length ≤ 6 ∧ ∀ l ∈ g, l.length ≤ 8) (hl10 : l.length ≤ 10 ∧ ∀ m ∈ l, m.length ≤ 8) (hl0 : ¬ 0 < l.length) :
    Calls Tryz.prog 3 #[.int .i64 z, .slice A a.length ca, .slice B b.length cb, .bool both, .slice G g.length cg, .slice L l.length cl, .bool true] w fun e w' => e = .returned (.bool true) ∧ Below w.heap.size w w' := by
  have hal := Below.alloc (Below.refl w.heap.size w) (Nat.le_refl _) (.cells #[.slice A a.length ca, .slice B b.length cb] 22)
  have HAB := Lib.hid (lists_ab (ca := ca) (cb := cb) hA hB)
  have HA := Lib.hid hA
  have HB := Lib.hid hB
  have HG := Lib.hid hG
  have HL := Lib.hid hL
  have HT := Lib.hid hT
  have HAW := Lib.hid (fun V (h : Below w.heap.size w V) => awake19_any V (hT.keep h))
  have HF := Lib.hid (few19_any (some ⟨w.heap.size, 0, none⟩) 2 [a, b] true _ HAB.out (by simp) ⟨fun _ => h20, fun _ => rfl⟩)
  have HSM := Lib.hid (fun V (h : Lists V G g) => Go.Proofs.Tg.small_any G cg 6 8 g true V h ⟨fun _ => hg8, fun _ => rfl⟩ (by omega))
  have HSL := Lib.hid (fun V (h : Lists V L l) => Go.Proofs.Tg.small_any L cl 10 8 l true V h ⟨fun _ => hl10, fun _ => rfl⟩ (by omega))
  clear hA hB hG hL hT HAB
  obtain ⟨g8, gw⟩ := hg8
  obtain ⟨l10, lw⟩ := hl10
  have ha20 := h20 a (by simp)
  have hb20 := h20 b (by simp)
  have HGW := Lib.hid gw
  have HLW := Lib.hid lw
  have HMD := Lib.hid (fun V (h : Below w.heap.size w V) => made_any A B ca cb z a b both V (HA.out.keep h) (HB.out.keep h) (by omega) (by omega))
  clear h20 gw lw
  go_enter Tryz.func3, Tryz.ntmps3
  go_upto_region 4 with (first
    | (go_at_call 6; refine HF.out.mono ?_; rintro e w2 ⟨rfl, rfl⟩)
    | (go_at_call 7; with_reducible refine Calls.mono (HSM.out _ (HG.out.keep hal)) ?_; rintro e w3 ⟨rfl, rfl⟩)
    | (go_at_call 7; with_reducible refine Calls.mono (HSL.out _ (HL.out.keep hal)) ?_; rintro e w3 ⟨rfl, rfl⟩)
    | (go_at_call 9; refine (HMD.out _ hal).mono ?_; rintro e w4 ⟨H, Bs, cH, cB, n, S, bs, rfl, hS, hBs, _, hn4, hI, hln, hbs, hb4⟩; have HBB := Lib.hid hbs; clear hbs))
  have hbs := HBB.out
  have hb04 := below_all hal hb4
  have HAS : Hid (GrpArg w4 H S) := Lib.hid (made_arg hS hn4 hI hln)
  have HRI := Lib.hid (rinvs_any H cH S w4 HAS.out.at' HAS.out.len HAS.out.wid HAS.out.few)
  have HBS4 : Hid (Lists w4 Bs bs ∧ bs.length ≤ 10 ∧ ∀ m ∈ bs, m.length ≤ 1000) := Lib.hid ⟨hBs, by rw [hbs]; unfold bsTo; split <;> simp <;> omega, fun m hm => by rw [hbs] at hm; rw [bsTo_len hm]; omega⟩
  clear hS hBs hI hln hb4 hn4 hbs HBB HMD HF HSM HSL HA HB
  go_upto_region 5 with (go_at_call 10; refine HRI.out.mono ?_; rintro e w5 h5
                         obtain ⟨A5, c5, xs, z5, rfl, hL5, hb5, hz5⟩ := inv_split h5
                         have HZ5 := Lib.hid hz5
                         clear hz5 h5)
  have hb05 := below_all hb04 hb5
  have HAI : Hid (Lists w5 A5 xs ∧ xs.length ≤ 6 ∧ ∀ x ∈ xs, x.length ≤ 1000) := Lib.hid ⟨hL5, by
   rcases HZ5.out with ⟨_, rfl, _⟩ | ⟨h1, rfl, _⟩
   ·simp
   ·exact invs_six h1 (HAS.out.few h1), fun x hx => by
   rcases HZ5.out with ⟨_, rfl, _⟩ | ⟨h1, rfl, _⟩
   ·cases hx
   ·exact HAS.out.wid x (invs_mem _ _ x hx)⟩
  have HGI : Hid (Lists w5 G g ∧ g.length ≤ 6 ∧ ∀ x ∈ g, x.length ≤ 1000) := Lib.hid ⟨HG.out.keep hb05, g8, fun m hm => by have := HGW.out m hm; omega⟩
  have HBS : Hid (Lists w5 Bs bs ∧ bs.length ≤ 10 ∧ ∀ m ∈ bs, m.length ≤ 1000) := Lib.hid ⟨HBS4.out.1.keep hb5, HBS4.out.2⟩
  have HLS : Hid (Lists w5 L l ∧ l.length ≤ 10 ∧ ∀ m ∈ l, m.length ≤ 1000) := Lib.hid ⟨HL.out.keep hb05, l10, fun m hm => by have := HLW.out m hm; omega⟩
  clear HBS4 HG HL hal HGW HLW HRI HAS HZ5 hL5 hb5 hb04
  obtain rfl : l = [] := List.eq_nil_of_length_eq_zero (by omega)
  clear hl0 HLS l10
  obtain ⟨X1, X2, X3⟩ := HGI.out
  obtain ⟨Y1, Y2, Y3⟩ := HBS.out
  have HA1 := Lib.hid (adapted_any G Bs cg cB g bs w5 X1 Y1 X2 (by omega) X3 Y3 (HT.out.keep hb05) (fun h => adapt_signs h))
  have HA2 := Lib.hid (fun V (h : Below w5.heap.size w5 V) => radapted_any G Bs cg cB g bs V (X1.keep h) (Y1.keep h) X2 (by omega) X3 Y3)
  have HX2 := Lib.hid X2
  have HY2 := Lib.hid Y2
  clear X1 X2 X3 Y1 Y2 Y3 HAI HGI HBS HT
  go_upto_region 10 with (go_at_call 11; refine HA1.out.mono ?_; rintro e w6 h6
                          obtain ⟨A6, c6, cs, rfl, ho6, hr6, hb6, hx6⟩ := ad_split h6
                          have HX6 := Lib.hid hx6
                          clear hx6 h6)
  go_upto_region 11 with (go_at_call 12; refine (HA2.out _ hb6).mono ?_; rintro e w7 h7
                          obtain ⟨A7, c7, ds, rfl, ho7, hr7, hb7, hx7⟩ := ad_split h7
                          have HX7 := Lib.hid hx7
                          clear hx7 h7)
  have HSC := Lib.hid (changes_same A6 A7 c6 c7 bs.length w5.heap.size w6.heap.size cs ds w7 (own_below ho6 hb7 (Nat.le_refl _)) (fun c hc => own_below (hr6 c hc) hb7 (Nat.le_refl _)) ho7 hr7 (HX6.out.trans HX7.out.symm) (ad_rows (by have := HY2.out; omega) HX6.out) (ad_count HX2.out HX6.out))
  have hb07 := below_all hb05 (below_all hb6 hb7)
  clear HX6 HX7 ho6 ho7 hr6 hr7 hb6 hb7 HA1 HA2 HX2 HY2
  generalize adE g bs = ez at *
  go_wp2_with (first
    | (go_at_call 13; refine HSC.out.mono ?_; rintro e w8 ⟨rfl, hb8⟩
       have hb08 := below_all hb07 hb8)
    | (go_at_call 8; refine (HAW.out _ hb08).mono ?_; rintro e w9 ⟨rfl, hb9⟩))
  go_ret
  exact ⟨rfl, below_all hb08 hb9⟩
end Go.Proofs.Tg.Bk
end
section
/- The law BlocksAdapted (printed by wip/tools/mk_lawadapted.py). -/
namespace Go.Proofs.Tg.Bk
open Go.RowKit Go.Gr Go.Sp Go.Ev Go.Pm Go.Mo
open Go.Proofs.Tg.Gp (rinvs_any RetInv)
open Go.Proofs.Tg.Rf (radapted_any)
set_option maxHeartbeats 40000000
set_option maxRecDepth 100000
theorem law_adapted (z : Int) (A B G L : Option Addr) (ca cb cg cl : Nat) (a b : List Int) (both : Bool) (g l : List (List Int)) (raw : Bool) (w : World) (hA : Ints w A a) (hB : Ints w B b) (hG : Lists w G g) (hL : Lists w L l) (hT : PT w) :
    Calls Tryz.prog 3 #[.int .i64 z, .slice A a.length ca, .slice B b.length cb, .bool both, .slice G g.length cg, .slice L l.length cl, .bool raw] w fun e w' => e = .returned (.bool true) ∧ Below w.heap.size w w' := by
  have hA0 := hA
  have hB0 := hB
  have hG0 := hG
  have hL0 := hL
  have hT0 := hT
  have hal := Below.alloc (Below.refl w.heap.size w) (Nat.le_refl _) (.cells #[.slice A a.length ca, .slice B b.length cb] 22)
  have HAB := Lib.hid (lists_ab (ca := ca) (cb := cb) hA hB)
  have HA := Lib.hid hA
  have HB := Lib.hid hB
  have HG := Lib.hid hG
  have HL := Lib.hid hL
  have HT := Lib.hid hT
  have HAW := Lib.hid (fun V (h : Below w.heap.size w V) => awake19_any V (hT.keep h))
  obtain ⟨q1, hq1⟩ : ∃ q : Bool, q = true ↔ ∀ x ∈ [a, b], x.length ≤ 20 := ⟨decide _, decide_eq_true_iff⟩
  obtain ⟨q2, hq2⟩ : ∃ q : Bool, q = true ↔ g.length ≤ 6 ∧ ∀ l ∈ g, l.length ≤ 8 := ⟨decide _, decide_eq_true_iff⟩
  obtain ⟨q3, hq3⟩ : ∃ q : Bool, q = true ↔ l.length ≤ 10 ∧ ∀ m ∈ l, m.length ≤ 8 := ⟨decide _, decide_eq_true_iff⟩
  have HF := Lib.hid (few19_any (some ⟨w.heap.size, 0, none⟩) 2 [a, b] q1 _ HAB.out (by simp) hq1)
  have HSM := Lib.hid (fun V (h : Lists V G g) => Go.Proofs.Tg.small_any G cg 6 8 g q2 V h hq2 (by omega))
  have HSL := Lib.hid (fun V (h : Lists V L l) => Go.Proofs.Tg.small_any L cl 10 8 l q3 V h hq3 (by omega))
  have HQ1 := Lib.hid hq1
  have HQ2 := Lib.hid hq2
  have HQ3 := Lib.hid hq3
  clear hA hB hG hL hT hq1 hq2 hq3 HAB
  cases q1 with
  | false =>
    go_enter Tryz.func3, Tryz.ntmps3
    go_wp2_with (first
      | (go_at_call 6; refine HF.out.mono ?_; rintro e w2 ⟨rfl, rfl⟩)
      | (go_at_call 8; refine (HAW.out _ hal).mono ?_; rintro e w3 ⟨rfl, hb3⟩))
    go_ret
    exact ⟨rfl, below_all hal hb3⟩
  | true =>
    cases q2 with
    | false =>
      go_enter Tryz.func3, Tryz.ntmps3
      go_wp2_with (first
        | (go_at_call 6; refine HF.out.mono ?_; rintro e w2 ⟨rfl, rfl⟩)
        | (go_at_call 7; with_reducible refine Calls.mono (HSM.out _ (HG.out.keep hal)) ?_; rintro e w3 ⟨rfl, rfl⟩)
        | (go_at_call 8; refine (HAW.out _ hal).mono ?_; rintro e w3 ⟨rfl, hb3⟩))
      go_ret
      exact ⟨rfl, below_all hal hb3⟩
    | true =>
      cases q3 with
      | false =>
        go_enter Tryz.func3, Tryz.ntmps3
        go_wp2_with (first
          | (go_at_call 6; refine HF.out.mono ?_; rintro e w2 ⟨rfl, rfl⟩)
          | (go_at_call 7; with_reducible refine Calls.mono (HSM.out _ (HG.out.keep hal)) ?_; rintro e w3 ⟨rfl, rfl⟩)
          | (go_at_call 7; with_reducible refine Calls.mono (HSL.out _ (HL.out.keep hal)) ?_; rintro e w3 ⟨rfl, rfl⟩)
          | (go_at_call 8; refine (HAW.out _ hal).mono ?_; rintro e w3 ⟨rfl, hb3⟩))
        go_ret
        exact ⟨rfl, below_all hal hb3⟩
      | true =>
        have h1 := HQ1.out.1 rfl
        have h2 := HQ2.out.1 rfl
        have h3 := HQ3.out.1 rfl
        clear HF HSM HSL HQ1 HQ2 HQ3 HA HB HG HL HT HAW hal
        by_cases hl0 : 0 < l.length
        ·cases raw with
         | false => exact law_ad1 z A B G L ca cb cg cl a b both g l w hA0 hB0 hG0 hL0 hT0 h1 h2 h3 hl0
         | true => exact law_ad2 z A B G L ca cb cg cl a b both g l w hA0 hB0 hG0 hL0 hT0 h1 h2 h3 hl0
        ·cases raw with
         | false => exact law_ad3 z A B G L ca cb cg cl a b both g l w hA0 hB0 hG0 hL0 hT0 h1 h2 h3 hl0
         | true => exact law_ad4 z A B G L ca cb cg cl a b both g l w hA0 hB0 hG0 hL0 hT0 h1 h2 h3 hl0
end Go.Proofs.Tg.Bk
end
