/- Parts of the proof: OR14, OR15. -/
import Derived.Test.YtodjofbneeejpaaGreatDoorMBA28
section
/- The law BlocksAction, case 4 (printed by wip/tools/mk_lawaction.py). -/
namespace Go.Proofs.Tg.Bk
open Go.RowKit Go.Gr Go.Sp Go.Ev Go.Pm Go.Mo
open Go.Proofs.Tg.Rf (pcell OV cellO OrbRows RetOrb RetAcn raction_any rorb_any samep_any own_le)
set_option maxHeartbeats 40000000
set_option maxRecDepth 100000
theorem law_act4 (z : Int) (A B G L : Option Addr) (ca cb cg cl : Nat) (a b : List Int) (both : Bool) (g l : List (List Int)) (w : World) (hA : Ints w A a) (hB : Ints w B b) (hG : Lists w G g) (hL : Lists w L l) (hT : PT w) (h20 : ∀ x ∈ [a, b], x.length ≤ 20) (hg8 : g.length ≤ 8 ∧ ∀ l ∈ g, l.length ≤ 8) (hl10 : l.length ≤ 10 ∧ ∀ m ∈ l, m.length ≤ 8) (hl0 : ¬ 0 < l.length) :
    Calls Tryz.prog 5 #[.int .i64 z, .slice A a.length ca, .slice B b.length cb, .bool both, .slice G g.length cg, .slice L l.length cl, .bool true] w fun e w' => e = .returned (.bool true) ∧ Below w.heap.size w w' := by
  have hal := Below.alloc (Below.refl w.heap.size w) (Nat.le_refl _) (.cells #[.slice A a.length ca, .slice B b.length cb] 22)
  have HAB := Lib.hid (lists_ab (ca := ca) (cb := cb) hA hB)
  have HA := Lib.hid hA
  have HB := Lib.hid hB
  have HG := Lib.hid hG
  have HL := Lib.hid hL
  have HT := Lib.hid hT
  have HAW := Lib.hid (fun V (h : Below w.heap.size w V) => awake19_any V (hT.keep h))
  have HF := Lib.hid (few19_any (some ⟨w.heap.size, 0, none⟩) 2 [a, b] true _ HAB.out (by simp) ⟨fun _ => h20, fun _ => rfl⟩)
  have HSM := Lib.hid (fun V (h : Lists V G g) => Go.Proofs.Tg.small_any G cg 8 8 g true V h ⟨fun _ => hg8, fun _ => rfl⟩ (by omega))
  have HSL := Lib.hid (fun V (h : Lists V L l) => Go.Proofs.Tg.small_any L cl 10 8 l true V h ⟨fun _ => hl10, fun _ => rfl⟩ (by omega))
  clear hA hB hG hL hT HAB
  obtain ⟨g8, gw⟩ := hg8
  obtain ⟨l10, lw⟩ := hl10
  have ha20 := h20 a (by simp)
  have hb20 := h20 b (by simp)
  have HGW := Lib.hid gw
  have HLW := Lib.hid lw
  have HMD := Lib.hid (fun V (h : Below w.heap.size w V) => made_any A B ca cb z a b both V (HA.out.keep h) (HB.out.keep h) (by omega) (by omega))
  clear h20 gw lw
  go_enter Tryz.func5, Tryz.ntmps5
  go_upto_region 4 with (first
    | (go_at_call 6; refine HF.out.mono ?_; rintro e w2 ⟨rfl, rfl⟩)
    | (go_at_call 7; with_reducible refine Calls.mono (HSM.out _ (HG.out.keep hal)) ?_; rintro e w3 ⟨rfl, rfl⟩)
    | (go_at_call 7; with_reducible refine Calls.mono (HSL.out _ (HL.out.keep hal)) ?_; rintro e w3 ⟨rfl, rfl⟩)
    | (go_at_call 9; refine (HMD.out _ hal).mono ?_; rintro e w4 ⟨H, Bs, cH, cB, n, S, bs, rfl, hS, hBs, _, hn4, hI, hln, hbs, hb4⟩; have HBB := Lib.hid hbs; clear hbs))
  have hbs := HBB.out
  have hb04 := below_all hal hb4
  have HAS : Hid (GrpArg w4 H S) := Lib.hid (made_arg hS hn4 hI hln)
  have HAR : Hid (GrpArg w4 G g) := Lib.hid (raw_arg (HG.out.keep hb04) g8 HGW.out)
  have HBS : Hid (Lists w4 Bs bs ∧ bs.length ≤ 10 ∧ ∀ m ∈ bs, m.length ≤ 1000) := Lib.hid ⟨hBs, by rw [hbs]; unfold bsTo; split <;> simp <;> omega, fun m hm => by rw [hbs] at hm; rw [bsTo_len hm]; omega⟩
  have HLS : Hid (Lists w4 L l ∧ l.length ≤ 10 ∧ ∀ m ∈ l, m.length ≤ 1000) := Lib.hid ⟨HL.out.keep hb04, l10, fun m hm => by have := HLW.out m hm; omega⟩
  clear hS hBs hI hln hb4 hn4 hbs HBB HMD HF HSM HSL HA HB HG HL hal HGW HLW
  obtain rfl : l = [] := List.eq_nil_of_length_eq_zero (by omega)
  clear hl0 HLS l10
  obtain ⟨X1, X2, X3, X4⟩ := HAR.out
  obtain ⟨Y1, Y2, Y3⟩ := HBS.out
  have HA1 := Lib.hid (action_any G Bs cg cB g bs w4 X1 (by omega) X3 Y1 Y3 (by omega))
  have HA2 := Lib.hid (fun V (h : Below w4.heap.size w4 V) => raction_any G Bs cg cB g bs V (X1.keep h) X2 X3 (Y1.keep h) Y3 (by omega))
  have HO1 := Lib.hid (fun V (h : Below w4.heap.size w4 V) => orb_any G Bs cg cB g bs V (X1.keep h) X2 X3 (Y1.keep h) Y3 (by omega) acn_facts)
  have HO2 := Lib.hid (fun V (h : Below w4.heap.size w4 V) => rorb_any G Bs cg cB g bs V (X1.keep h) X2 X3 (Y1.keep h) Y3 (by omega) (fun h => (acn_facts h).1))
  have HX2 := Lib.hid X2
  have HY2 := Lib.hid Y2
  clear X1 X2 X3 X4 Y1 Y2 Y3 HAS HAR HBS
  go_upto_region 9 with (go_at_call 16; refine HA1.out.mono ?_; rintro e w5 h5
                         obtain ⟨A5, c5, xs, rfl, hL5, hb5, hx5⟩ := acn_split (RetAcn.of h5)
                         have HX5 := Lib.hid hx5
                         clear hx5 h5)
  go_upto_region 10 with (go_at_call 17; refine (HA2.out _ hb5).mono ?_; rintro e w6 h6
                          obtain ⟨A6, c6, ys, rfl, hL6, hb6, hx6⟩ := acn_split h6
                          have HX6 := Lib.hid hx6
                          clear hx6 h6)
  have hb46 := below_all hb5 hb6
  go_upto_region 11 with (go_at_call 18; refine (HO1.out _ hb46).mono ?_; rintro e w7 h7
                          obtain ⟨A7, c7, os, rfl, ho7, hr7, hb7, hx7⟩ := orb_split h7
                          have HX7 := Lib.hid hx7
                          clear hx7 h7)
  have hb47 := below_all hb46 hb7
  go_upto_region 12 with (go_at_call 19; refine (HO2.out _ hb47).mono ?_; rintro e w8 h8
                          obtain ⟨A8, c8, ps, rfl, ho8, hr8, hb8, hx8⟩ := orb_split h8
                          have HX8 := Lib.hid hx8
                          clear hx8 h8)
  have hxy : ys = xs := HX6.out.trans HX5.out.symm
  subst hxy
  have hop : os.map OV.ps = ps.map OV.ps := HX7.out.trans HX8.out.symm
  have hyl : ys.length ≤ 720 := by
    rw [HX5.out]
    split
    · rw [List.length_map]; exact HX2.out
    · simp
  have HLE := Lib.hid (lists_any A5 A6 ys ys c5 c6 w8 (((hL5.keep hb6).keep hb7).keep hb8) ((hL6.keep hb7).keep hb8) (by omega) (by
    rw [HX5.out]
    split
    · intro x hx
      obtain ⟨y, _, rfl⟩ := List.mem_map.1 hx
      rw [img_len]
      have := HY2.out
      omega
    · intro x hx; cases hx))
  rw [decide_eq_true rfl] at HLE
  have HSP := Lib.hid (fun V (h : Below w8.heap.size w8 V) => samep_any A7 A8 c7 c8 w6.heap.size w7.heap.size os ps V (Sl.keep (Sl.own (own_below ho7 hb8 (Nat.le_refl _))) h) (Sl.keep (Sl.own ho8) h) ((hr7.keep hb8).keep h) (hr8.keep h) hop (own_le ho7))
  have hb08 := below_all hb04 (below_all hb47 hb8)
  clear HX5 HX6 HX7 HX8 hop hL5 hL6 ho7 hr7 ho8 hr8 hb5 hb6 hb7 hb8 hb46 hb47 HA1 HA2 HO1 HO2
  generalize acnE g bs = ez at *
  go_wp2_with (first
    | (go_at_call 15; refine HLE.out.mono ?_; rintro e w9 ⟨rfl, hd9⟩
       have hb9 := hd9.below)
    | (go_at_call 20; refine (HSP.out _ hb9).mono ?_; rintro e w10 ⟨rfl, hb10⟩
       have hb010 := below_all hb08 (below_all hb9 hb10))
    | (go_at_call 8; refine (HAW.out _ hb010).mono ?_; rintro e w11 ⟨rfl, hb11⟩))
  go_ret
  exact ⟨rfl, below_all hb010 hb11⟩
end Go.Proofs.Tg.Bk
end
section
/- The law BlocksAction (printed by wip/tools/mk_lawaction.py). -/
namespace Go.Proofs.Tg.Bk
open Go.RowKit Go.Gr Go.Sp Go.Ev Go.Pm Go.Mo
open Go.Proofs.Tg.Rf (pcell OV cellO OrbRows RetOrb RetAcn raction_any rorb_any samep_any own_le)
set_option maxHeartbeats 40000000
set_option maxRecDepth 100000
theorem law_action (z : Int) (A B G L : Option Addr) (ca cb cg cl : Nat) (a b : List Int) (both : Bool) (g l : List (List Int)) (raw : Bool) (w : World) (hA : Ints w A a) (hB : Ints w B b) (hG : Lists w G g) (hL : Lists w L l) (hT : PT w) :
    Calls Tryz.prog 5 #[.int .i64 z, .slice A a.length ca, .slice B b.length cb, .bool both, .slice G g.length cg, .slice L l.length cl, .bool raw] w fun e w' => e = .returned (.bool true) ∧ Below w.heap.size w w' := by
  have hA0 := hA
  have hB0 := hB
  have hG0 := hG
  have hL0 := hL
  have hT0 := hT
  have hal := Below.alloc (Below.refl w.heap.size w) (Nat.le_refl _) (.cells #[.slice A a.length ca, .slice B b.length cb] 22)
  have HAB := Lib.hid (lists_ab (ca := ca) (cb := cb) hA hB)
  have HA := Lib.hid hA
  have HB := Lib.hid hB
  have HG := Lib.hid hG
  have HL := Lib.hid hL
  have HT := Lib.hid hT
  have HAW := Lib.hid (fun V (h : Below w.heap.size w V) => awake19_any V (hT.keep h))
  obtain ⟨q1, hq1⟩ : ∃ q : Bool, q = true ↔ ∀ x ∈ [a, b], x.length ≤ 20 := ⟨decide _, decide_eq_true_iff⟩
  obtain ⟨q2, hq2⟩ : ∃ q : Bool, q = true ↔ g.length ≤ 8 ∧ ∀ l ∈ g, l.length ≤ 8 := ⟨decide _, decide_eq_true_iff⟩
  obtain ⟨q3, hq3⟩ : ∃ q : Bool, q = true ↔ l.length ≤ 10 ∧ ∀ m ∈ l, m.length ≤ 8 := ⟨decide _, decide_eq_true_iff⟩
  have HF := Lib.hid (few19_any (some ⟨w.heap.size, 0, none⟩) 2 [a, b] q1 _ HAB.out (by simp) hq1)
  have HSM := Lib.hid (fun V (h : Lists V G g) => Go.Proofs.Tg.small_any G cg 8 8 g q2 V h hq2 (by omega))
  have HSL := Lib.hid (fun V (h : Lists V L l) => Go.Proofs.Tg.small_any L cl 10 8 l q3 V h hq3 (by omega))
  have HQ1 := Lib.hid hq1
  have HQ2 := Lib.hid hq2
  have HQ3 := Lib.hid hq3
  clear hA hB hG hL hT hq1 hq2 hq3 HAB
  cases q1 with
  | false =>
    go_enter Tryz.func5, Tryz.ntmps5
    go_wp2_with (first
      | (go_at_call 6; refine HF.out.mono ?_; rintro e w2 ⟨rfl, rfl⟩)
      | (go_at_call 8; refine (HAW.out _ hal).mono ?_; rintro e w3 ⟨rfl, hb3⟩))
    go_ret
    exact ⟨rfl, below_all hal hb3⟩
  | true =>
    cases q2 with
    | false =>
      go_enter Tryz.func5, Tryz.ntmps5
      go_wp2_with (first
        | (go_at_call 6; refine HF.out.mono ?_; rintro e w2 ⟨rfl, rfl⟩)
        | (go_at_call 7; with_reducible refine Calls.mono (HSM.out _ (HG.out.keep hal)) ?_; rintro e w3 ⟨rfl, rfl⟩)
        | (go_at_call 8; refine (HAW.out _ hal).mono ?_; rintro e w3 ⟨rfl, hb3⟩))
      go_ret
      exact ⟨rfl, below_all hal hb3⟩
    | true =>
      cases q3 with
      | false =>
        go_enter Tryz.func5, Tryz.ntmps5
        go_wp2_with (first
          | (go_at_call 6; refine HF.out.mono ?_; rintro e w2 ⟨rfl, rfl⟩)
          | (go_at_call 7; with_reducible refine Calls.mono (HSM.out _ (HG.out.keep hal)) ?_; rintro e w3 ⟨rfl, rfl⟩)
          | (go_at_call 7; with_reducible refine Calls.mono (HSL.out _ (HL.out.keep hal)) ?_; rintro e w3 ⟨rfl, rfl⟩)
          | (go_at_call 8; refine (HAW.out _ hal).mono ?_; rintro e w3 ⟨rfl, hb3⟩))
        go_ret
        exact ⟨rfl, below_all hal hb3⟩
      | true =>
        have h1 := HQ1.out.1 rfl
        have h2 := HQ2.out.1 rfl
        have h3 := HQ3.out.1 rfl
        clear HF HSM HSL HQ1 HQ2 HQ3 HA HB HG HL HT HAW hal
        by_cases hl0 : 0 < l.length
        · cases raw with
          | false => exact law_act1 z A B G L ca cb cg cl a b both g l w hA0 hB0 hG0 hL0 hT0 h1 h2 h3 hl0
          | true => exact law_act2 z A B G L ca cb cg cl a b both g l w hA0 hB0 hG0 hL0 hT0 h1 h2 h3 hl0
        · cases raw with
          | false => exact law_act3 z A B G L ca cb cg cl a b both g l w hA0 hB0 hG0 hL0 hT0 h1 h2 h3 hl0
          | true => exact law_act4 z A B G L ca cb cg cl a b both g l w hA0 hB0 hG0 hL0 hT0 h1 h2 h3 hl0
end Go.Proofs.Tg.Bk
end
