/- Parts of the proof: QV3, GXG, GXH, GWV. -/
import Derived.Test.YtodapfjmgnekkaaGreatDoorMU5
import Derived.Test.YtodapfjmgnekkaaGreatDoorMU9
import Derived.Test.YtodapfjmgnekkaaGreatDoorMU14
section
/- The program's graph of the variables. -/
namespace Go.Proofs.Tg.Sx
open Go.RowKit Go.Gr Go.Sp Go.Ev Go.Mo
set_option maxHeartbeats 4000000
set_option maxRecDepth 100000
theorem j36 : (#[.bool false, .bool false, .bool false, .bool false, .bool false, .bool false, .bool false, .bool false, .bool false, .bool false, .bool false, .bool false, .bool false, .bool false, .bool false, .bool false, .bool false, .bool false, .bool false, .bool false, .bool false, .bool false, .bool false, .bool false, .bool false, .bool false, .bool false, .bool false, .bool false, .bool false, .bool false, .bool false, .bool false, .bool false, .bool false, .bool false] : Array Value) = jarr (fun _ _ => false) := rfl
theorem vars_any (p : PVal) (L : Option Addr) (cl : Nat) (ps : List PVal) (w : World) (hP : TermsAt w p.adr p.tv) (hL : PolysAt w L ps) (hsm : p.small) (hls : ∀ c ∈ ps, c.small) (hfw : ps.length ≤ 1000) (hT : Tab w) :
    Calls Tryz.prog 29 #[.agg #[.int .i64 p.vars, .slice p.adr p.tv.length p.cap], .slice L ps.length cl] w (RetVar p ps w) := by
  obtain ⟨W, hW⟩ : ∃ W, (w.alloc (.cells #[.int .i64 p.vars, .slice p.adr p.tv.length p.cap] 24)).alloc (.cells #[.int .i64 0, .slice none 0 0] 40) = W := ⟨_, rfl⟩
  have hbA : Below w.heap.size w W := by rw [← hW]; exact ((Below.refl _ _).alloc (Nat.le_refl _) _).alloc (by simp) _
  have B0 : Blk W w.heap.size 24 #[.int .i64 p.vars, .slice p.adr p.tv.length p.cap] := by rw [← hW]; exact (Blk.new _ _ _).alloc _
  have B1 : Blk W (w.heap.size + 1) 40 #[.int .i64 0, .slice none 0 0] := by
    rw [← hW]; have := Blk.new (w.alloc (.cells #[.int .i64 p.vars, .slice p.adr p.tv.length p.cap] 24)) 40 #[.int .i64 0, .slice none 0 0]
    simpa using this
  obtain ⟨ok, hok⟩ : ∃ ok : Bool, ok = true ↔ p.ok := by classical exact ⟨decide p.ok, decide_eq_true_iff⟩
  have HPV : Hid (Calls Tryz.prog 54 #[.agg #[.int .i64 p.vars, .slice p.adr p.tv.length p.cap]] W fun e w' => e = .returned (.bool ok) ∧ Below W.heap.size W w') := Lib.hid (pvalid_any p.vars p.adr p.cap p.tv ok W (hP.keep hbA) hsm.1 hsm.2 hok (hT.below hbA hT.1))
  have HCV : Hid (∀ V (c : PVal) q, Below w.heap.size w V → c ∈ ps → (q = true ↔ c.ok) → Calls Tryz.prog 54 #[.agg #[.int .i64 c.vars, .slice c.adr c.tv.length c.cap]] V fun e w' => e = .returned (.bool q) ∧ Below V.heap.size V w') := Lib.hid (fun V c q hV hc hq =>
    pvalid_any c.vars c.adr c.cap c.tv q V ((hL.tms c hc).keep hV) (hls c hc).1 (hls c hc).2 hq (hT.below hV hT.1))
  have HL := Lib.hid hL
  have HP := Lib.hid hP
  have HOK := Lib.hid hok
  have HT := Lib.hid hT
  have HWW := Lib.hid hW
  obtain ⟨P, T, cT, tv⟩ := p
  simp only at *
  obtain ⟨c0, c1, _, _⟩ := B0.two
  obtain ⟨z0, z1, y0, y1⟩ := B1.two
  have hl1 := B1.lt
  clear hW hP hL hok hls hT
  go_enter Tryz.func29, Tryz.ntmps29
  go_upto_region 1 with (fail)
  rw [HWW.out]
  clear HWW
  cases ok with
  | false =>
    have HE : Hid (errV ⟨P, T, cT, tv⟩ ps = 1) := Lib.hid (errV_bad (fun h => by have := HOK.out.2 h.1; cases this))
    go_wp2_with (go_at_call 54; refine HPV.out.mono ?_; rintro e w1 ⟨rfl, hb1⟩
                 have C1 := B1.keep hb1 hl1
                 obtain ⟨z0, z1, y0, y1⟩ := C1.two
                 have hl2 := C1.lt)
    refine bodyPost_ret (v := _) (Gx.results_g (p := 4) (q := 5) rfl _ _ (w.heap.size + 1) _ _ rfl (Gx.blk_two C1)) rfl ?_
    exact ⟨below_far (below_far (below_all hbA hb1) (by omega) _ _) (by omega) _ _, .inl ⟨by rw [HE.out]; decide, by rw [HE.out]; rfl⟩⟩
  | true =>
    have hpok := HOK.out.1 rfl
    obtain ⟨n, rfl⟩ : ∃ n : Nat, P = n := ⟨P.toNat, by have := hpok.2.1.1; simp only at this; omega⟩
    have hn6 : n ≤ 6 := by have := hpok.2.1.2.1; simp only at this; omega
    have HDT : Hid (∀ t ∈ tv, domK n 24 t.exps) := Lib.hid (fun t ht => vldP_dom hpok (TV.pl t) (List.mem_map.2 ⟨t, ht, rfl⟩))
    have HPO := Lib.hid hpok
    clear hpok HOK
    go_wp2_with (go_at_call 54; refine HPV.out.mono ?_; rintro e w1 ⟨rfl, hb1⟩)
    have C0 := B0.keep hb1 B0.lt
    have C1 := B1.keep hb1 hl1
    have hbw := below_all hbA hb1
    clear B0 B1 hbA hb1 HPV c0 c1 z0 z1 y0 y1 hl1
    go_loopw [29] (fun s29 wr => ∃ i : Nat, s29 = .int .i64 i ∧ i ≤ ps.length ∧ Hid (∀ c ∈ ps.take i, c.ok) ∧ Blk wr w.heap.size 24 #[.int .i64 n, .slice T tv.length cT] ∧ Blk wr (w.heap.size + 1) 40 #[.int .i64 0, .slice none 0 0] ∧ Below w.heap.size w wr) (fun s29 _ => ps.length - (intOf s29).toNat)
    case atStart => exact ⟨0, rfl, Nat.zero_le _, Lib.hid (by simp), C0, C1, hbw⟩
    case round =>
      clear C0 C1 hbw
      obtain ⟨wo, rfl⟩ : ∃ wo : World, wo = wr := ⟨_, rfl⟩
      obtain ⟨i, rfl, hi, HG, C0, C1, hb⟩ := hrel
      by_cases hlt : i < ps.length
      · obtain ⟨ad, rfl, e0w, e1w, _⟩ := HL.out.at hlt
        have e0 := keep_cell hb e0w
        have e1 := keep_cell hb e1w
        have HM : Hid (ps[i] ∈ ps) := Lib.hid (List.getElem_mem _)
        have HN : Hid (ps[i].ok → ∀ c ∈ ps.take (i + 1), c.ok) := Lib.hid (all_take (P := fun c : PVal => c.ok) hlt HG.out)
        obtain ⟨q, hq⟩ : ∃ q : Bool, q = true ↔ ps[i].ok := by classical exact ⟨decide ps[i].ok, decide_eq_true_iff⟩
        have HQ := Lib.hid hq
        have hal := hb.alloc hb.size (.cells #[.int .i64 ps[i].vars, .slice ps[i].adr ps[i].tv.length ps[i].cap] 24)
        have HC2 := Lib.hid (HCV.out _ ps[i] q hal HM.out hq)
        have hC1a := C1.alloc (.cells #[.int .i64 ps[i].vars, .slice ps[i].adr ps[i].tv.length ps[i].cap] 24)
        have hC0a := C0.alloc (.cells #[.int .i64 ps[i].vars, .slice ps[i].adr ps[i].tv.length ps[i].cap] 24)
        have hla := hC1a.lt
        have hl0 := hC0a.lt
        clear e0w e1w hq
        generalize ps[i] = c at *
        obtain ⟨cv, cA, cc, ctv⟩ := c
        simp only at *
        have wi : IntKind.i64.wrap ((i : Int) + 1) = (i : Int) + 1 := IntWalk.i64_in _ (by omega)
        cases q with
        | true =>
          have HG2 := Lib.hid (HN.out (HQ.out.1 rfl))
          go_wp2_with (go_at_call 54; refine HC2.out.mono ?_; rintro e w2 ⟨rfl, hb2⟩)
          go_roundw
          case rel => exact ⟨i + 1, by go_num, by omega, HG2, hC0a.keep hb2 hl0, hC1a.keep hb2 hla, below_all hal hb2⟩
          case measure => simp [intOf]; omega
        | false =>
          have HE : Hid (errV ⟨n, T, cT, tv⟩ ps = 1) := Lib.hid (errV_bad (fun h => by have := HQ.out.2 (h.2 _ HM.out); cases this))
          go_wp2_with (go_at_call 54; refine HC2.out.mono ?_; rintro e w2 ⟨rfl, hb2⟩
                       have C2 := hC1a.keep hb2 hla
                       obtain ⟨z0, z1, y0, y1⟩ := C2.two
                       have hl2 := C2.lt)
          refine bodyPost_ret (v := _) (Gx.results_g (p := 4) (q := 5) rfl _ _ (w.heap.size + 1) _ _ rfl (Gx.blk_two C2)) rfl ?_
          exact ⟨below_far (below_far (below_all hal hb2) (by omega) _ _) (by omega) _ _, .inl ⟨by rw [HE.out]; decide, by rw [HE.out]; rfl⟩⟩
      · obtain rfl : i = ps.length := by omega
        have dk : decide ((ps.length : Int) < (ps.length : Int)) = false := by simp
        have HAV : Hid (∀ c ∈ ps, c.ok) := Lib.hid (by have := HG.out; rwa [List.take_length] at this)
        clear HG HCV
        have HOKA : Hid ((⟨n, T, cT, tv⟩ : PVal).ok ∧ ∀ c ∈ ps, c.ok) := Lib.hid ⟨HPO.out, HAV.out⟩
        clear HPO HAV
        go_wp2
        go_loopw [40] (fun s40 wr => ∃ i : Nat, s40 = .int .i64 i ∧ i ≤ ps.length ∧ Hid (∀ c ∈ ps.take i, c.vars = n) ∧ Blk wr w.heap.size 24 #[.int .i64 n, .slice T tv.length cT] ∧ Blk wr (w.heap.size + 1) 40 #[.int .i64 0, .slice none 0 0] ∧ Below w.heap.size w wr) (fun s40 _ => ps.length - (intOf s40).toNat)
        case atStart => exact ⟨0, rfl, Nat.zero_le _, Lib.hid (by simp), C0, C1, hb⟩
        case round =>
          clear C0 C1 hb
          obtain ⟨wp, rfl⟩ : ∃ wp : World, wp = wr := ⟨_, rfl⟩
          obtain ⟨i, rfl, hi, HG, C0, C1, hb⟩ := hrel
          obtain ⟨g0, g1, _, _⟩ := C0.two
          have hl1 := C1.lt
          by_cases hlt : i < ps.length
          · obtain ⟨ad, rfl, e0w, e1w, _⟩ := HL.out.at hlt
            have e0 := keep_cell hb e0w
            have e1 := keep_cell hb e1w
            have HM : Hid (ps[i] ∈ ps) := Lib.hid (List.getElem_mem _)
            have HN : Hid (ps[i].vars = n → ∀ c ∈ ps.take (i + 1), c.vars = n) := Lib.hid (all_take (P := fun c : PVal => c.vars = n) hlt HG.out)
            have hal := hb.alloc hb.size (.cells #[.int .i64 ps[i].vars, .slice ps[i].adr ps[i].tv.length ps[i].cap] 24)
            have hC1a := C1.alloc (.cells #[.int .i64 ps[i].vars, .slice ps[i].adr ps[i].tv.length ps[i].cap] 24)
            have hC0a := C0.alloc (.cells #[.int .i64 ps[i].vars, .slice ps[i].adr ps[i].tv.length ps[i].cap] 24)
            have g0 := cell_alloc g0 (.cells #[.int .i64 ps[i].vars, .slice ps[i].adr ps[i].tv.length ps[i].cap] 24)
            clear e0w e1w
            generalize ps[i] = c at *
            obtain ⟨cv, cA, cc, ctv⟩ := c
            simp only at *
            have wi : IntKind.i64.wrap ((i : Int) + 1) = (i : Int) + 1 := IntWalk.i64_in _ (by omega)
            by_cases hv : cv = n
            · have hne : (cv != (n : Int)) = false := by simp [hv]
              have HG2 := Lib.hid (HN.out hv)
              clear hv
              go_wp2
              go_roundw
              case rel => exact ⟨i + 1, by go_num, by omega, HG2, hC0a, hC1a, hal⟩
              case measure => simp [intOf]; omega
            · have hne : (cv != (n : Int)) = true := by simp [hv]
              have HE : Hid (errV ⟨n, T, cT, tv⟩ ps = 4) := Lib.hid (errV_shape HOKA.out (fun h => hv (h _ HM.out)))
              clear hv
              obtain ⟨z0, z1, y0, y1⟩ := C1.two
              have hl2 := hC1a.lt
              go_wp2
              refine bodyPost_ret (v := _) (Gx.results_g (p := 4) (q := 5) rfl _ _ (w.heap.size + 1) _ _ rfl ((Gx.blk_two C1).alloc _)) rfl ?_
              exact ⟨(below_far (below_far hb (by omega) _ _) (by omega) _ _).alloc (by simp; omega) _, .inl ⟨by rw [HE.out]; decide, by rw [HE.out]; rfl⟩⟩
          · obtain rfl : i = ps.length := by omega
            have HAS : Hid (∀ c ∈ ps, c.vars = n) := Lib.hid (by have := HG.out; rwa [List.take_length] at this)
            clear HG
            by_cases h32 : ps.length ≤ 32
            · have d32 : decide ((32 : Int) < (ps.length : Int)) = false := decide_eq_false (by omega)
              have d32' : decide (32 < ps.length) = false := decide_eq_false (by omega)
              have HE : Hid (errV ⟨n, T, cT, tv⟩ ps = 0) := Lib.hid (errV_ok HOKA.out HAS.out h32)
              have HDC : Hid (∀ c ∈ ps, c.tv.length ≤ 4096 ∧ ∀ t ∈ c.tv, domK n 24 t.exps) := Lib.hid (fun c hc => by
                have hco := HOKA.out.2 c hc
                refine ⟨by have := hco.1; rwa [List.length_map] at this, fun t ht => ?_⟩
                have hcv := HAS.out c hc
                have hco' : VldP (n : Int) (c.tv.map TV.pl) := by rw [← hcv]; exact hco
                exact vldP_dom hco' (TV.pl t) (List.mem_map.2 ⟨t, ht, rfl⟩))
              clear HOKA HAS
              go_upto_region 18 with (fail)
              rw [j36]
              have hJ0 := Blk.new wp 101 (jarr fun _ _ => false)
              have D0 := C0.alloc (.cells (jarr fun _ _ => false) 101)
              have D1 := C1.alloc (.cells (jarr fun _ _ => false) 101)
              have hbD := hb.alloc hb.size (.cells (jarr fun _ _ => false) 101)
              have hgs : w.heap.size + 2 ≤ wp.heap.size := by omega
              generalize wp.alloc (.cells (jarr fun _ _ => false) 101) = X at *
              generalize wp.heap.size = g at *
              have JP0 : JP (fun _ _ => false) (fun x y => inT (tv.take 0) x y) := fun x y _ _ => ⟨fun h => (by cases h), fun ⟨t, h, _⟩ => by simp at h⟩
              have HJP0 := Lib.hid JP0
              obtain ⟨g0, g1, _, _⟩ := D0.two
              clear C0 C1 hb hl1 JP0
              go_wp2
              clear g0 g1
              go_loopw [58] (fun s58 wr => ∃ (i : Nat) (J : Nat → Nat → Bool), s58 = .int .i64 i ∧ i ≤ tv.length ∧ Hid (JP J (fun x y => inT (tv.take i) x y)) ∧ Blk wr g 101 (jarr J) ∧ Blk wr w.heap.size 24 #[.int .i64 n, .slice T tv.length cT] ∧ Blk wr (w.heap.size + 1) 40 #[.int .i64 0, .slice none 0 0] ∧ Below w.heap.size w wr) (fun s58 _ => tv.length - (intOf s58).toNat)
              case atStart => exact ⟨0, _, rfl, Nat.zero_le _, HJP0, hJ0, D0, D1, hbD⟩
              case round =>
                clear hJ0 D0 D1 hbD HJP0
                obtain ⟨wq, rfl⟩ : ∃ wq : World, wq = wr := ⟨_, rfl⟩
                obtain ⟨i, J, rfl, hi, HJ, hJ, D0, D1, hb⟩ := hrel
                by_cases hlt : i < tv.length
                · obtain ⟨td, rfl, e0w, e1w, hIw⟩ := HP.out.at hlt
                  have e0 := keep_cell hb e0w
                  have e1 := keep_cell hb e1w
                  have hdm := HDT.out tv[i] (List.getElem_mem _)
                  have HIS : Hid (∀ x y, x < y → y < 6 → ((inT (tv.take i) x y ∨ (0 < (kv tv[i].exps).getD x 0 ∧ 0 < (kv tv[i].exps).getD y 0)) ↔ inT (tv.take (i + 1)) x y)) := Lib.hid (fun x y h1 h2 => by rw [inT_succ hlt, kv_getD _ (by omega), kv_getD _ h2])
                  have hlal := Below.alloc (Below.refl wq.heap.size wq) (Nat.le_refl _) (.cells #[.string tv[i].coef, .slice tv[i].adr tv[i].exps.length tv[i].cap] 69)
                  have HKO : Hid (∀ V, Below wq.heap.size wq V → Calls Tryz.prog 56 #[.slice tv[i].adr tv[i].exps.length tv[i].cap] V fun e w' => e = .returned (.agg (iarr (kv tv[i].exps))) ∧ Below V.heap.size V w') := Lib.hid (fun V hV => keyOf_any _ _ _ V (hIw.keep (below_all hb hV)) (by rw [hdm.1]; exact hn6))
                  have HKL : Hid ((kv tv[i].exps).length = 6) := Lib.hid (kv_len _)
                  clear e0w e1w hIw hdm
                  generalize kv tv[i].exps = kx at *
                  generalize tv[i] = t at *
                  obtain ⟨s, A, c, el⟩ := t
                  simp only at e0 e1 hlal HKO
                  have hJa := hJ.alloc (.cells #[.string s, .slice A el.length c] 69)
                  have D0a := D0.alloc (.cells #[.string s, .slice A el.length c] 69)
                  have D1a := D1.alloc (.cells #[.string s, .slice A el.length c] 69)
                  have hba := hb.alloc hb.size (.cells #[.string s, .slice A el.length c] 69)
                  have wi : IntKind.i64.wrap ((i : Int) + 1) = (i : Int) + 1 := IntWalk.i64_in _ (by have := hsm.1; simp only at this; omega)
                  go_wp2_with (first
                    | (go_at_call 56; refine (HKO.out _ hlal).mono ?_; rintro e w3 ⟨rfl, hb3⟩
                       have hJ3 := hJa.keep hb3 hJa.lt
                       have D03 := D0a.keep hb3 D0a.lt
                       have D13 := D1a.keep hb3 D1a.lt
                       have hb3w := below_all hba hb3)
                    | (go_at_call 55; refine (join_any g J kx w3 HKL.out hJ3).mono ?_; rintro e w4 ⟨rfl, hJ4, hg4⟩))
                  go_roundw
                  case rel =>
                    refine ⟨i + 1, _, by go_num, by omega, Lib.hid ((HJ.out.join kx).congr HIS.out), hJ4, D03.grown hg4 (by simp; omega), D13.grown hg4 (by simp; omega), below_tab hb3w hJ3.lt hg4 (by omega)⟩
                  case measure => simp [intOf]; omega
                · obtain rfl : i = tv.length := by omega
                  rw [List.take_length] at HJ
                  have dk : decide ((tv.length : Int) < (tv.length : Int)) = false := by simp
                  have HJ0 : Hid (JP J (fun x y => inT tv x y ∨ inC (ps.take 0) x y)) := Lib.hid (HJ.out.congr (fun x y _ _ => ⟨.inl, fun h => h.elim id (fun ⟨c, h, _⟩ => by simp at h)⟩))
                  clear HJ
                  go_wp2
                  go_loopw [69] (fun s69 wr => ∃ (i : Nat) (J : Nat → Nat → Bool), s69 = .int .i64 i ∧ i ≤ ps.length ∧ Hid (JP J (fun x y => inT tv x y ∨ inC (ps.take i) x y)) ∧ Blk wr g 101 (jarr J) ∧ Blk wr w.heap.size 24 #[.int .i64 n, .slice T tv.length cT] ∧ Blk wr (w.heap.size + 1) 40 #[.int .i64 0, .slice none 0 0] ∧ Below w.heap.size w wr) (fun s69 _ => ps.length - (intOf s69).toNat)
                  case atStart => exact ⟨0, J, rfl, Nat.zero_le _, HJ0, hJ, D0, D1, hb⟩
                  case round =>
                    clear hJ D0 D1 hb HJ0
                    obtain ⟨wz, rfl⟩ : ∃ wz : World, wz = wr := ⟨_, rfl⟩
                    obtain ⟨i, J, rfl, hi, HJ, hJ, D0, D1, hb⟩ := hrel
                    by_cases hlt : i < ps.length
                    · obtain ⟨ad, rfl, e0w, e1w, htw⟩ := HL.out.at hlt
                      have e0 := keep_cell hb e0w
                      have e1 := keep_cell hb e1w
                      have HDC2 := Lib.hid (HDC.out ps[i] (List.getElem_mem _))
                      have HIS : Hid (∀ x y, ((inT tv x y ∨ inC (ps.take i) x y) ∨ (occ ps[i].tv x ∧ occ ps[i].tv y)) ↔ (inT tv x y ∨ inC (ps.take (i + 1)) x y)) := Lib.hid (fun x y => by rw [inC_succ hlt]; exact or_assoc)
                      have HTW := Lib.hid htw
                      clear e0w e1w htw
                      generalize ps[i] = c at *
                      obtain ⟨cv, cA, cc, ctv⟩ := c
                      simp only at e0 e1 HDC2 HIS HTW
                      have hll := HDC2.out.1
                      have wi : IntKind.i64.wrap ((i : Int) + 1) = (i : Int) + 1 := IntWalk.i64_in _ (by omega)
                      go_upto_region 27 with (fail)
                      obtain ⟨X, hX⟩ : ∃ X, (wz.alloc (.cells #[.int .i64 cv, .slice cA ctv.length cc] 24)).alloc (.cells #[.int .i64 0, .int .i64 0, .int .i64 0, .int .i64 0, .int .i64 0, .int .i64 0] 105) = X := ⟨_, rfl⟩
                      have E14 : Blk X wz.heap.size 24 #[.int .i64 cv, .slice cA ctv.length cc] := by rw [← hX]; exact (Blk.new _ _ _).alloc _
                      have E15 : Blk X (wz.heap.size + 1) 105 (iarr (List.replicate 6 0)) := by
                        have e : (wz.alloc (.cells #[.int .i64 cv, .slice cA ctv.length cc] 24)).heap.size = wz.heap.size + 1 := by simp
                        rw [← hX, ← e]
                        exact Blk.new _ _ _
                      have hJX : Blk X g 101 (jarr J) := by rw [← hX]; exact (hJ.alloc _).alloc _
                      have D0X : Blk X w.heap.size 24 #[.int .i64 n, .slice T tv.length cT] := by rw [← hX]; exact (D0.alloc _).alloc _
                      have D1X : Blk X (w.heap.size + 1) 40 #[.int .i64 0, .slice none 0 0] := by rw [← hX]; exact (D1.alloc _).alloc _
                      have hbX : Below w.heap.size w X := by rw [← hX]; exact (hb.alloc hb.size _).alloc (by have := hb.size; simp; omega) _
                      rw [hX]
                      clear hX
                      have hgz := hJ.lt
                      have hl1z := D1.lt
                      generalize wz.heap.size = G at *
                      obtain ⟨f0, f1, _, _⟩ := E14.two
                      have HS0 : Hid (Sums (ctv.take 0) (List.replicate 6 0) (24 * ((0 : Nat) : Int))) := Lib.hid ⟨rfl, fun x hx => by rw [List.eq_of_mem_replicate hx]; omega, fun q hq => ⟨fun h => by
                        rw [List.getD_eq_getElem?_getD, List.getElem?_replicate, if_pos hq] at h
                        simp at h, fun ⟨t, h, _⟩ => by simp at h⟩⟩
                      clear hJ D0 D1 hb e0 e1
                      go_wp2
                      clear f0 f1
                      go_loopw [76] (fun s76 wr => ∃ (k : Nat) (xs : List Int), s76 = .int .i64 k ∧ k ≤ ctv.length ∧ Hid (Sums (ctv.take k) xs (24 * (k : Int))) ∧ Blk wr (G + 1) 105 (iarr xs) ∧ Blk wr g 101 (jarr J) ∧ Blk wr w.heap.size 24 #[.int .i64 n, .slice T tv.length cT] ∧ Blk wr (w.heap.size + 1) 40 #[.int .i64 0, .slice none 0 0] ∧ Below w.heap.size w wr) (fun s76 _ => ctv.length - (intOf s76).toNat)
                      case atStart => exact ⟨0, _, rfl, Nat.zero_le _, HS0, E15, hJX, D0X, D1X, hbX⟩
                      case round =>
                        clear E14 E15 hJX D0X D1X hbX HS0
                        obtain ⟨wy, rfl⟩ : ∃ wy : World, wy = wr := ⟨_, rfl⟩
                        obtain ⟨k, xs, rfl, hk, HS, hK, hJ, D0, D1, hb⟩ := hrel
                        by_cases hkl : k < ctv.length
                        · obtain ⟨kd, rfl, e0w, e1w, hIw⟩ := HTW.out.at hkl
                          have e0 := keep_cell hb e0w
                          have e1 := keep_cell hb e1w
                          have HDM := Lib.hid (HDC2.out.2 ctv[k] (List.getElem_mem _))
                          have HOC : Hid (∀ x, occ (ctv.take (k + 1)) x ↔ occ (ctv.take k) x ∨ 0 < ctv[k].exps.getD x 0) := Lib.hid (fun x => occ_succ hkl)
                          have HIW := Lib.hid hIw
                          clear e0w e1w hIw
                          generalize ctv[k] = t at *
                          obtain ⟨s, A, c, el⟩ := t
                          simp only at e0 e1 HDM HOC HIW
                          have hKa := hK.alloc (.cells #[.string s, .slice A el.length c] 69)
                          have hJa := hJ.alloc (.cells #[.string s, .slice A el.length c] 69)
                          have D0a := D0.alloc (.cells #[.string s, .slice A el.length c] 69)
                          have D1a := D1.alloc (.cells #[.string s, .slice A el.length c] 69)
                          have hba := hb.alloc hb.size (.cells #[.string s, .slice A el.length c] 69)
                          have wk : IntKind.i64.wrap ((k : Int) + 1) = (k : Int) + 1 := IntWalk.i64_in _ (by omega)
                          have HEL : Hid (el.length = n) := Lib.hid HDM.out.1
                          go_wp2
                          go_loopw [83] (fun s83 wr => ∃ (j : Nat) (ys : List Int), s83 = .int .i64 j ∧ j ≤ el.length ∧ Hid (ys.length = 6 ∧ ∀ q, q < 6 → ys.getD q 0 = xs.getD q 0 + (if q < j then el.getD q 0 else 0)) ∧ Blk wr (G + 1) 105 (iarr ys) ∧ Blk wr g 101 (jarr J) ∧ Blk wr w.heap.size 24 #[.int .i64 n, .slice T tv.length cT] ∧ Blk wr (w.heap.size + 1) 40 #[.int .i64 0, .slice none 0 0] ∧ Below w.heap.size w wr) (fun s83 _ => el.length - (intOf s83).toNat)
                          case atStart => exact ⟨0, xs, rfl, Nat.zero_le _, Lib.hid ⟨HS.out.len, fun q hq => by rw [if_neg (by omega)]; omega⟩, hKa, hJa, D0a, D1a, hba⟩
                          case round =>
                            clear hK hJ D0 D1 hb hKa hJa D0a D1a hba e0 e1
                            obtain ⟨wx, rfl⟩ : ∃ wx : World, wx = wr := ⟨_, rfl⟩
                            obtain ⟨j, ys, rfl, hj, HY, hK, hJ, D0, D1, hb⟩ := hrel
                            by_cases hjl : j < el.length
                            · obtain ⟨Ed, rfl, hce⟩ := Ints.at (HIW.out.keep hb) hjl
                              have hj6 : j < 6 := by have := HEL.out; omega
                              have hyl := HY.out.1
                              have hcy := (hK.cell j).trans (iarr_at ys (by omega))
                              have hfy := hK.frozen j
                              have hK2 := hK.set j (.int .i64 (ys[j]'(by omega) + el[j]))
                              rw [iarr_set] at hK2
                              have HK2 := Lib.hid hK2
                              have HY2 : Hid ((ys.set j (ys[j]'(by omega) + el[j])).length = 6 ∧ ∀ q, q < 6 → (ys.set j (ys[j]'(by omega) + el[j])).getD q 0 = xs.getD q 0 + (if q < j + 1 then el.getD q 0 else 0)) := Lib.hid (by
                                refine ⟨by rw [List.length_set]; exact hyl, fun q hq => ?_⟩
                                have h1 := HY.out.2 q hq
                                by_cases hqj : q = j
                                · subst hqj
                                  rw [List.getD_eq_getElem?_getD, List.getElem?_set_self (by omega), Option.getD_some, if_pos (by omega)]
                                  rw [if_neg (by omega), List.getD_eq_getElem?_getD, List.getElem?_eq_getElem (by omega), Option.getD_some] at h1
                                  rw [h1, List.getD_eq_getElem?_getD (l := el), List.getElem?_eq_getElem hjl, Option.getD_some]
                                  omega
                                · rw [List.getD_eq_getElem?_getD, List.getElem?_set_ne (fun h => hqj h.symm), ← List.getD_eq_getElem?_getD, h1]
                                  by_cases h2 : q < j
                                  · rw [if_pos h2, if_pos (by omega)]
                                  · rw [if_neg h2, if_neg (by omega)])
                              have hbd1 := HDM.out.2 el[j] (List.getElem_mem _)
                              have hyb : ys[j]'(by omega) = xs.getD j 0 := by
                                have h1 := HY.out.2 j hj6
                                rw [if_neg (by omega), List.getD_eq_getElem?_getD, List.getElem?_eq_getElem (by omega), Option.getD_some] at h1
                                omega
                              have hxb : 0 ≤ xs.getD j 0 ∧ xs.getD j 0 ≤ 24 * (k : Int) := by
                                have hxl := HS.out.len
                                rw [List.getD_eq_getElem?_getD, List.getElem?_eq_getElem (show j < xs.length by omega), Option.getD_some]
                                exact HS.out.ge _ (List.getElem_mem _)
                              rw [← hyb] at hxb
                              clear hyb hK2
                              generalize ys.set j (ys[j]'(by omega) + el[j]) = zs at *
                              generalize ys[j]'(by omega) = yv at *
                              generalize el[j] = ev at *
                              have q0 : (0 : Int) ≤ (j : Int) := by omega
                              have q1 : (j : Int) < 6 := by omega
                              have q3 : ((j : Int)).toNat = j := by omega
                              have ws : IntKind.i64.wrap (yv + ev) = yv + ev := IntWalk.i64_in _ (by omega)
                              have wj : IntKind.i64.wrap ((j : Int) + 1) = (j : Int) + 1 := IntWalk.i64_in _ (by omega)
                              clear hyl hbd1 hxb
                              go_wp2
                              go_roundw
                              case rel => exact ⟨j + 1, zs, by go_num, by omega, HY2, HK2.out, hJ.far (by simp; omega) _, D0.far (by simp; omega) _, D1.far (by simp; omega) _, below_far hb (by omega) _ _⟩
                              case measure => simp [intOf]; omega
                            · obtain rfl : j = el.length := by omega
                              have dk : decide ((el.length : Int) < (el.length : Int)) = false := by simp
                              have HS2 : Hid (Sums (ctv.take (k + 1)) ys (24 * ((k + 1 : Nat) : Int))) := Lib.hid (by
                                have hsum : ∀ q, q < 6 → ys.getD q 0 = xs.getD q 0 + el.getD q 0 := fun q hq => by
                                  rw [HY.out.2 q hq]
                                  by_cases h : q < el.length
                                  · rw [if_pos h]
                                  · rw [if_neg h, List.getD_eq_getElem?_getD (l := el), List.getElem?_eq_none (by omega)]; rfl
                                have hxg : ∀ q, q < 6 → 0 ≤ xs.getD q 0 ∧ xs.getD q 0 ≤ 24 * (k : Int) := fun q hq => by
                                  have hxl := HS.out.len
                                  rw [List.getD_eq_getElem?_getD, List.getElem?_eq_getElem (show q < xs.length by omega), Option.getD_some]
                                  exact HS.out.ge _ (List.getElem_mem _)
                                have heg : ∀ q, 0 ≤ el.getD q 0 ∧ el.getD q 0 ≤ 24 := fun q => by
                                  by_cases h : q < el.length
                                  · rw [List.getD_eq_getElem?_getD, List.getElem?_eq_getElem h, Option.getD_some]
                                    exact HDM.out.2 _ (List.getElem_mem _)
                                  · rw [List.getD_eq_getElem?_getD, List.getElem?_eq_none (by omega)]
                                    simp
                                refine ⟨HY.out.1, fun x hx => ?_, fun q hq => ?_⟩
                                · obtain ⟨q, hq, rfl⟩ := List.getElem_of_mem hx
                                  have hq6 : q < 6 := by have := HY.out.1; omega
                                  have h1 := hsum q hq6
                                  rw [List.getD_eq_getElem?_getD, List.getElem?_eq_getElem hq, Option.getD_some] at h1
                                  have h2 := hxg q hq6
                                  have h3 := heg q
                                  omega
                                · have h1 := hsum q hq
                                  have h2 := hxg q hq
                                  have h3 := heg q
                                  rw [HOC.out q, ← HS.out.iff q hq]
                                  omega)
                              go_wp2
                              go_roundw
                              case rel => exact ⟨k + 1, ys, by go_num, by omega, HS2, hK, hJ, D0, D1, hb⟩
                              case measure => simp [intOf]; omega
                        · obtain rfl : k = ctv.length := by omega
                          rw [List.take_length] at HS
                          have dk2 : decide ((ctv.length : Int) < (ctv.length : Int)) = false := by simp
                          obtain ⟨x0, x1, x2, x3, x4, x5, rfl⟩ : ∃ x0 x1 x2 x3 x4 x5, xs = [x0, x1, x2, x3, x4, x5] := by
                            have := HS.out.len
                            match xs, this with
                            | [a, b, c, d, e, f], _ => exact ⟨a, b, c, d, e, f, rfl⟩
                          have hK' : Blk wy (G + 1) 105 #[.int .i64 x0, .int .i64 x1, .int .i64 x2, .int .i64 x3, .int .i64 x4, .int .i64 x5] := hK
                          obtain ⟨⟨k0, k1, k2, k3, k4, k5⟩, _⟩ := Blk.six hK'
                          have HJN : Hid (Calls Tryz.prog 55 #[.pointer (some ⟨g, 0, none⟩), .agg #[.int .i64 x0, .int .i64 x1, .int .i64 x2, .int .i64 x3, .int .i64 x4, .int .i64 x5]] wy fun e w' => e = .returned (.tuple #[]) ∧ Blk w' g 101 (jarr (jTo J [x0, x1, x2, x3, x4, x5] 6 0)) ∧ wy.grownBy w' (some g)) := Lib.hid (join_any g J [x0, x1, x2, x3, x4, x5] wy rfl hJ)
                          have HJ2 : Hid (JP (jTo J [x0, x1, x2, x3, x4, x5] 6 0) (fun x y => inT tv x y ∨ inC (ps.take (i + 1)) x y)) := Lib.hid ((HJ.out.join [x0, x1, x2, x3, x4, x5]).congr (fun x y h1 h2 => by
                            rw [← HIS.out x y, HS.out.iff x (by omega), HS.out.iff y h2]))
                          have hgl := hJ.lt
                          clear hK hK'
                          go_wp2_with (go_at_call 55; refine HJN.out.mono ?_; rintro e w4 ⟨rfl, hJ4, hg4⟩)
                          go_roundw
                          case rel => exact ⟨i + 1, _, by go_num, by omega, HJ2, hJ4, D0.grown hg4 (by simp; omega), D1.grown hg4 (by simp; omega), below_tab hb hgl hg4 (by omega)⟩
                          case measure => simp [intOf]; omega
                    · obtain rfl : i = ps.length := by omega
                      rw [List.take_length] at HJ
                      have dk3 : decide ((ps.length : Int) < (ps.length : Int)) = false := by simp
                      have HTE : Hid (tableEdges J n n = tableEdges (jV ⟨n, T, cT, tv⟩ ps) n n) := Lib.hid (te_JP (p := ⟨n, T, cT, tv⟩) HJ.out hn6)
                      have HMC : Hid (∀ V E c, Below w.heap.size w V → Gx.EdgesAt V E (tableEdges J n n) → Calls Tryz.prog 57 #[.int .i64 n, .slice E (tableEdges J n n).length c] V fun e w' => ∃ F d, e = .returned (.tuple #[.agg #[.int .i64 n, .slice F (tableEdges J n n).length d], .int .i64 0]) ∧ w'.ownsRow V.heap.size 83 2 (.slice F (tableEdges J n n).length d) (tableEdges J n n).length (Gx.ecells (tableEdges J n n)) ∧ Below V.heap.size V w') := Lib.hid (fun V E c hV hE => by
                        have hv := tableEdges_valid J (n := n) (by omega)
                        have hg := valid_good hv
                        have hlen := tableEdges_len J n n
                        have : n * n ≤ 6 * 6 := Nat.mul_le_mul hn6 hn6
                        refine (Gx.make_any n E c _ V hE (by omega) (HT.out.below hV HT.out.1)).mono ?_
                        rintro e w' (⟨h, _⟩ | ⟨_, ⟨x, hx, h⟩, _⟩ | ⟨_, _, F, d, h1, h2, h3⟩)
                        · exact absurd (⟨⟨by omega, by omega⟩, fun e he => by
                            have := hg e he
                            unfold goodEdge at this
                            unfold inR
                            omega⟩ : rangeOk (n : Int) (tableEdges J n n)) h
                        · have := hg x hx
                          unfold goodEdge at this
                          omega
                        · rw [Int.toNat_natCast, te_make (by omega)] at h1 h2
                          exact ⟨F, d, h1, h2, h3⟩)
                      have HSC := Lib.hid (fun m => tableEdges_succ J n m)
                      have HRS := Lib.hid (fun m j => rowT_succ J m j)
                      have HRT := Lib.hid (fun m => rowT_start J m)
                      have HLN : Hid (∀ m, m ≤ n → (tableEdges J n m).length ≤ 36) := Lib.hid (fun m hm => by
                        have := tableEdges_len J n m
                        have : n * m ≤ 6 * 6 := Nat.mul_le_mul hn6 (by omega)
                        omega)
                      have HRL : Hid (∀ m j, j ≤ n → (rowT J m j).length ≤ 6) := Lib.hid (fun m j hj => by
                        unfold rowT
                        rw [List.length_map]
                        have := List.length_filter_le (fun k => decide (m < k) && J m k) (List.range j)
                        rw [List.length_range] at this
                        omega)
                      obtain ⟨i0, hi0, hz0, hz1, hz2⟩ := info_parts Gx.pair_info
                      obtain ⟨d0, d1, _, _⟩ := D0.two
                      clear HJ
                      go_wp2
                      clear d0 d1
                      go_loopw [101, 20] (fun s101 s20 wr => ∃ (i : Nat) (E : Option Addr) (c : Nat) (fs : List (Int × Int)), s101 = .int .i64 i ∧ i ≤ n ∧ s20 = .slice E fs.length c ∧ Hid (fs = tableEdges J n i) ∧ wr.ownsRow w.heap.size 83 2 (.slice E fs.length c) fs.length (Gx.ecells fs) ∧
                        Blk wr g 101 (jarr J) ∧ Blk wr w.heap.size 24 #[.int .i64 n, .slice T tv.length cT] ∧ Blk wr (w.heap.size + 1) 40 #[.int .i64 0, .slice none 0 0] ∧ Below w.heap.size w wr) (fun s101 _ _ => n - (intOf s101).toNat)
                      case atStart => exact ⟨0, none, 0, [], rfl, Nat.zero_le _, rfl, Lib.hid rfl, World.ownsRow_nil _ _ _ _, hJ, D0, D1, hb⟩
                      case round =>
                        clear hJ D0 D1 hb
                        obtain ⟨wy, rfl⟩ : ∃ wy : World, wy = wr := ⟨_, rfl⟩
                        obtain ⟨i, E, c, fs, rfl, hi, rfl, HF, hown, hJ, D0, D1, hb⟩ := hrel
                        by_cases hin : i < n
                        · have wi : IntKind.i64.wrap ((i : Int) + 1) = (i : Int) + 1 := IntWalk.i64_in _ (by omega)
                          go_wp2
                          go_loopw [22, 20] (fun s22 s20 wr => ∃ (j : Nat) (E : Option Addr) (c : Nat) (fs : List (Int × Int)), s22 = .int .i64 j ∧ i < j ∧ j ≤ n ∧ s20 = .slice E fs.length c ∧ Hid (fs = tableEdges J n i ++ rowT J i j) ∧ wr.ownsRow w.heap.size 83 2 (.slice E fs.length c) fs.length (Gx.ecells fs) ∧
                            Blk wr g 101 (jarr J) ∧ Blk wr w.heap.size 24 #[.int .i64 n, .slice T tv.length cT] ∧ Blk wr (w.heap.size + 1) 40 #[.int .i64 0, .slice none 0 0] ∧ Below w.heap.size w wr) (fun s22 _ _ => n - (intOf s22).toNat)
                          case atStart => exact ⟨i + 1, E, c, fs, by go_num, by omega, by omega, rfl, Lib.hid (by rw [HRT.out, List.append_nil]; exact HF.out), hown, hJ, D0, D1, hb⟩
                          case round =>
                            clear hown hJ D0 D1 hb HF
                            obtain ⟨wx, rfl⟩ : ∃ wx : World, wx = wr := ⟨_, rfl⟩
                            obtain ⟨j, E, c, fs, rfl, hij, hj, rfl, HF, hown, hJ, D0, D1, hb⟩ := hrel
                            obtain ⟨d0, d1, _, _⟩ := D0.two
                            by_cases hjn : j < n
                            · have cJ := (hJ.cell (i * 6 + j)).trans (jarr_at J (show i < 6 by omega) (show j < 6 by omega))
                              have HRS2 := Lib.hid (HRS.out i j)
                              have hfl : fs.length ≤ 50 := by
                                have h1 := HLN.out i (by omega)
                                have h2 := HRL.out i j (by omega)
                                rw [HF.out, List.length_append]; omega
                              obtain ⟨q, hq⟩ : ∃ q, J i j = q := ⟨_, rfl⟩
                              rw [hq] at cJ HRS2
                              clear hq
                              have q0 : (0 : Int) ≤ (i : Int) := by omega
                              have q1 : (i : Int) < 6 := by omega
                              have q2 : (0 : Int) ≤ (j : Int) := by omega
                              have q3 : (j : Int) < 6 := by omega
                              have wj : IntKind.i64.wrap ((j : Int) + 1) = (j : Int) + 1 := IntWalk.i64_in _ (by omega)
                              cases q with
                              | true =>
                                have HR3 : Hid (rowT J i (j + 1) = rowT J i j ++ [((i : Int), (j : Int))]) := Lib.hid (by rw [HRS2.out, if_pos ⟨hij, rfl⟩])
                                have hneJ := own_blk_ne hown hJ (by decide)
                                have hne0 := own_blk_ne hown D0 (by decide)
                                have hne1 := own_blk_ne hown D1 (by decide)
                                have hsz := hb.size
                                clear HRS2
                                go_wp2_with (at_builtin; go_must (refine wpList_append_own_at _ rfl _ _ 38 rfl w.heap.size 83 i0 (.agg #[.int .i64 0, .int .i64 0]) 2 16 Tryz.underlying38 hi0 hz0 hz1 hz2 rfl (by decide) (.slice E fs.length c) _ _ rfl (hown.alloc _) ⟨wx.heap.size, 0, none⟩ 1 1 [.int .i64 i, .int .i64 j] rfl rfl ?c1 ?c2 ?c3 ?c4 ?c5 ?_)
                                             case c1 => exact Gx.cell_two_new' _ _ _ _
                                             case c2 => simp [Value.oneCell']
                                             case c3 => simp only [maxLen]; omega
                                             case c4 => omega
                                             case c5 => simp; omega
                                             intro v' w4 hown4 hg4 _ _
                                             obtain ⟨E3, c3, hv, hle3, _⟩ := Sl.of_own hown4
                                             subst hv)
                                have hlen : (fs ++ [((i : Int), (j : Int))]).length = fs.length + 1 := by simp
                                go_roundw
                                case rel =>
                                  refine ⟨j + 1, E3, c3, fs ++ [((i : Int), (j : Int))], by go_num, by omega, by omega, by rw [hlen], Lib.hid (by rw [HR3.out, HF.out, List.append_assoc]), ?_, (hJ.alloc _).grown hg4 hneJ, (D0.alloc _).grown hg4 hne0, (D1.alloc _).grown hg4 hne1, ?_⟩
                                  · rw [hlen, Gx.ecells_app]; exact hown4
                                  · exact (hb.alloc hsz _).grown hg4 (by simp; omega) (fun k hk => (hown.lt k hk).1)
                                case measure => simp [intOf]; omega
                              | false =>
                                have HR3 : Hid (rowT J i (j + 1) = rowT J i j) := Lib.hid (by rw [HRS2.out, if_neg (fun h => by cases h.2), List.append_nil])
                                clear HRS2
                                go_wp2
                                go_roundw
                                case rel => exact ⟨j + 1, E, c, fs, by go_num, by omega, by omega, rfl, Lib.hid (by rw [HR3.out]; exact HF.out), hown, hJ, D0, D1, hb⟩
                                case measure => simp [intOf]; omega
                            · obtain rfl : j = n := by omega
                              have HF2 : Hid (fs = tableEdges J j (i + 1)) := Lib.hid (by rw [HSC.out]; exact HF.out)
                              have wi2 : IntKind.i64.wrap ((i : Int) + 1) = (i : Int) + 1 := IntWalk.i64_in _ (by omega)
                              have dj : decide ((j : Int) < (j : Int)) = false := by simp
                              go_wp2
                              go_roundw
                              case rel => exact ⟨i + 1, E, c, fs, by go_num, by omega, rfl, HF2, hown, hJ, D0, D1, hb⟩
                              case measure => simp [intOf]; omega
                        · obtain rfl : i = n := by omega
                          have di : decide ((i : Int) < (i : Int)) = false := by simp
                          obtain ⟨d0, d1, _, _⟩ := D0.two
                          have hE := Sl.own hown
                          obtain rfl := HF.out
                          have HM2 := Lib.hid (HMC.out wy E c hb hE)
                          have hl1y := D1.lt
                          clear HMC hown hE
                          go_wp2_with (go_at_call 57; refine HM2.out.mono ?_; rintro e w4 ⟨F, d, rfl, hF, hb4⟩
                                       have C4 := D1.keep hb4 hl1y
                                       obtain ⟨z0, z1, y0, y1⟩ := C4.two
                                       have hl4 := C4.lt)
                          refine bodyPost_ret (v := _) (Gx.results_g (p := 4) (q := 5) rfl _ _ (w.heap.size + 1) _ _ rfl (Gx.blk_two C4)) rfl ?_
                          have hne := own_blk_ne hF C4 (by decide)
                          refine ⟨below_far (below_far (below_all hb hb4) (by omega) _ _) (by omega) _ _, .inr ⟨HE.out, i, rfl, hn6, F, d, ?_, ?_⟩⟩
                          · rw [← HTE.out]; rfl
                          · rw [← HTE.out]; exact Sl.own (own_far (own_far hF hne _) hne _)
            · have d32 : decide ((32 : Int) < (ps.length : Int)) = true := decide_eq_true (by omega)
              have d32' : decide (32 < ps.length) = true := decide_eq_true (by omega)
              have HE : Hid (errV ⟨n, T, cT, tv⟩ ps = 2) := Lib.hid (errV_lim HOKA.out HAS.out h32)
              obtain ⟨z0, z1, y0, y1⟩ := C1.two
              go_wp2
              refine bodyPost_ret (v := _) (Gx.results_g (p := 4) (q := 5) rfl _ _ (w.heap.size + 1) _ _ rfl (Gx.blk_two C1)) rfl ?_
              exact ⟨below_far (below_far hb (by omega) _ _) (by omega) _ _, .inl ⟨by rw [HE.out]; decide, by rw [HE.out]; rfl⟩⟩
end Go.Proofs.Tg.Sx
end
section
/- The statements' Mod and made. -/
namespace Go.Gr
/-- The rest that is not negative. -/
def modZ (a n : Int) : Int := if a.tmod n < 0 then a.tmod n + n else a.tmod n
theorem modZ_in (a : Int) {n : Int} (hn : 0 < n) : 0 ≤ modZ a n ∧ modZ a n < n := by
  have h1 := Int.tmod_lt_of_pos a hn
  have h2 := Int.lt_tmod_of_pos a hn
  unfold modZ
  split <;> omega
/-- The pairs that made keeps. -/
def madeEs (m : Int) (es : List (Int × Int)) : List (Int × Int) := (es.map fun e => (modZ e.1 m, modZ e.2 m)).filter fun e => decide (e.1 ≠ e.2)
theorem madeEs_snoc (m : Int) (es : List (Int × Int)) (a b : Int) : madeEs m (es ++ [(a, b)]) = madeEs m es ++ if modZ a m = modZ b m then [] else [(modZ a m, modZ b m)] := by
  unfold madeEs
  rw [List.map_append, List.filter_append]
  by_cases h : modZ a m = modZ b m <;> simp [h]
theorem madeEs_ok {m : Int} (hm : 0 < m) (h64 : m ≤ 64) (es : List (Int × Int)) : rangeOk m (madeEs m es) ∧ ∀ x ∈ madeEs m es, x.1 ≠ x.2 := by
  refine ⟨⟨⟨by omega, h64⟩, fun e he => ?_⟩, fun x hx => ?_⟩
  · unfold madeEs at he
    obtain ⟨x, _, rfl⟩ := List.mem_map.1 (List.mem_filter.1 he).1
    have h1 := modZ_in x.1 hm
    have h2 := modZ_in x.2 hm
    exact ⟨h1.1, h1.2, h2.1, h2.2⟩
  · unfold madeEs at hx
    simpa using (List.mem_filter.1 hx).2
end Go.Gr
namespace Go.Proofs.Tg.Gx
open Go.RowKit Go.Gr
set_option maxHeartbeats 2000000
set_option maxRecDepth 100000
theorem mod_any (a n : Int) (w : World) (hn : 0 < n) (hn2 : n ≤ 1000) : Calls Tryz.prog 11 #[.int .i64 a, .int .i64 n] w fun e w' => e = .returned (.int .i64 (modZ a n)) ∧ w' = w := by
  have h1 := Int.tmod_lt_of_pos a hn
  have h2 := Int.lt_tmod_of_pos a hn
  have HM : Hid (modZ a n = if a.tmod n < 0 then a.tmod n + n else a.tmod n) := Lib.hid rfl
  have hne : (n == 0) = false := by simp; omega
  by_cases h : a.tmod n < 0
  · have d : decide (a.tmod n < 0) = true := by simpa using h
    rw [if_pos h] at HM
    go_enter Tryz.func11, Tryz.ntmps11
    go_wp2
    go_ret
    exact ⟨by rw [HM.out]; rfl, rfl⟩
  · have d : decide (a.tmod n < 0) = false := by simpa using h
    rw [if_neg h] at HM
    go_enter Tryz.func11, Tryz.ntmps11
    go_wp2
    go_ret
    exact ⟨by rw [HM.out]; rfl, rfl⟩
end Go.Proofs.Tg.Gx
end
section
/- The statements' made: a small valid graph, whatever comes in. -/
namespace Go.Proofs.Tg.Gx
open Go.RowKit Go.Gr
set_option maxHeartbeats 2000000
set_option maxRecDepth 100000
def okEs (m : Int) (fs : List (Int × Int)) : Prop := rangeOk m fs ∧ ∀ x ∈ fs, x.1 ≠ x.2
theorem okEs_snoc {m : Int} {fs : List (Int × Int)} (h : okEs m fs) (a b : Int) (hm : 0 < m) (hab : modZ a m ≠ modZ b m) : okEs m (fs ++ [(modZ a m, modZ b m)]) := by
  have h1 := modZ_in a hm
  have h2 := modZ_in b hm
  refine ⟨⟨h.1.1, fun e he => ?_⟩, fun e he => ?_⟩
  · rcases List.mem_append.1 he with he | he
    · exact h.1.2 e he
    · simp at he; subst he; exact ⟨h1.1, h1.2, h2.1, h2.2⟩
  · rcases List.mem_append.1 he with he | he
    · exact h.2 e he
    · simp at he; subst he; exact hab
def RetMade (w : World) (e : Ending) (w' : World) : Prop :=
  ∃ (m : Nat) (fs : List (Int × Int)) (F : Option Addr) (d : Nat), m ≤ 8 ∧ valid m fs ∧ fs.length ≤ 64 ∧ e = .returned (.tuple #[.agg #[.int .i64 m, .slice F fs.length d], .bool true]) ∧ EdgesAt w' F fs ∧ Below w.heap.size w w'
end Go.Proofs.Tg.Gx
end
section
/- Adjacent and Neighbors. -/
namespace Go.Proofs.Tg.Gx
open Go.RowKit Go.Gr
set_option maxHeartbeats 1000000
set_option maxRecDepth 100000
theorem adj_in (n : Nat) (E : Option Addr) (c : Nat) (es : List (Int × Int)) (i j : Nat) (w : World) (hE : EdgesAt w E es) (hl : es.length ≤ 1000000) (hv : valid n es) (hi : i < n) (hj : j < n) :
    Calls Tryz.prog 26 #[.agg #[.int .i64 n, .slice E es.length c], .int .i64 i, .int .i64 j] w fun e w' => e = .returned (.bool ((readAll es i).testBit j)) ∧ Below w.heap.size w w' := by
  have hr := read_all n E c es true (w.alloc (.cells #[.int .i64 n, .slice E es.length c] 40)) (hE.keep ((Below.refl _ _).alloc (Nat.le_refl _) _)) hl (by simp [hv])
  have hsm := (readAll_small es n hv).1
  have hn : n ≤ 64 := by have := hv.2.1; omega
  have hbA : Below w.heap.size w (w.alloc (.cells #[.int .i64 n, .slice E es.length c] 40)) := (Below.refl _ _).alloc (Nat.le_refl _) _
  have hB := Blk.new w 40 #[.int .i64 n, .slice E es.length c]
  have HR := Lib.hid hr
  have HB := Lib.hid hB
  clear hr hv hB
  have d1 : decide ((0 : Int) ≤ (i : Int)) = true := by simp
  have d2 : decide ((i : Int) < (n : Int)) = true := by simp; omega
  have d3 : decide ((0 : Int) ≤ (j : Int)) = true := by simp
  have d4 : decide ((j : Int) < (n : Int)) = true := by simp; omega
  have hs1 := hsm i
  go_enter Tryz.func26, Tryz.ntmps26
  go_wp2_with (first
    | (go_at_call 45; refine HR.out.mono ?_; rintro e w1 ⟨A, hAs, rfl, hAe, hb1⟩; obtain rfl := hAe rfl; clear hAe)
    | (refine adj_alloc _ _ _ _ ?_)
    | (refine wpList_store_row rfl 89 (.tmp 7) (.tmp 12) rfl w1.heap.size (adjA (readAll es)) rfl rfl 89 (adjA fun _ => 0) (Blk.new w1 89 _) (size56 _) (by simp only [adjA_size]) (adj_one _) ?_
       have hA1 := blk_setRow (Blk.new w1 89 (adjA fun _ => 0)) (adjA (readAll es))
       have hB1 := blk_setRow_far (Blk.alloc (HB.out.keep hb1 (Blk.lt HB.out)) (.cells (adjA fun _ => 0) 89)) (g' := w1.heap.size) (by have := hb1.size; simp at this; omega) (adjA (readAll es))
       have hbw := below_setRow ((hbA.trans (hb1.mono (by simp))).alloc (by have := hb1.size; simp at this; omega) (.cells (adjA fun _ => 0) 89)) (g := w1.heap.size) (by have := hb1.size; simp at this; omega) (adjA (readAll es))
       have c0 := hB1.cell 0
       simp at c0
       have ci := AdjAt.cell hA1 (show i < 64 by omega)
       generalize (w1.alloc (.cells (adjA fun _ => 0) 89)).setRow w1.heap.size (adjA (readAll es)) = W at hA1 hB1 hbw c0 ci ⊢)
    | (go_at_call 46; refine (has_any _ _ _ hs1 (by omega)).mono ?_; rintro e w2 ⟨rfl, rfl⟩))
  go_ret
  exact ⟨rfl, hbw⟩
theorem adj_out (n : Nat) (E : Option Addr) (c : Nat) (es : List (Int × Int)) (i j : Int) (w : World) (hE : EdgesAt w E es) (hl : es.length ≤ 1000000) (hv : valid n es) (hij : ¬ (0 ≤ i ∧ i < n ∧ 0 ≤ j ∧ j < n)) :
    Calls Tryz.prog 26 #[.agg #[.int .i64 n, .slice E es.length c], .int .i64 i, .int .i64 j] w fun e w' => e = .returned (.bool false) ∧ Below w.heap.size w w' := by
  have hr := read_all n E c es true (w.alloc (.cells #[.int .i64 n, .slice E es.length c] 40)) (hE.keep ((Below.refl _ _).alloc (Nat.le_refl _) _)) hl (by simp [hv])
  have hsm := (readAll_small es n hv).1
  have hn : n ≤ 64 := by have := hv.2.1; omega
  have hbA : Below w.heap.size w (w.alloc (.cells #[.int .i64 n, .slice E es.length c] 40)) := (Below.refl _ _).alloc (Nat.le_refl _) _
  have hB := Blk.new w 40 #[.int .i64 n, .slice E es.length c]
  have HR := Lib.hid hr
  have HB := Lib.hid hB
  clear hr hv hB
  by_cases h1 : 0 ≤ i
  · have d1 : decide (0 ≤ i) = true := by simpa using h1
    by_cases h2 : i < n
    · have d2 : decide (i < (n : Int)) = true := by simpa using h2
      by_cases h3 : 0 ≤ j
      · have d3 : decide (0 ≤ j) = true := by simpa using h3
        have d4 : decide (j < (n : Int)) = false := by simp; omega
        clear hij
        go_enter Tryz.func26, Tryz.ntmps26
        go_wp2_with (first
          | (go_at_call 45; refine HR.out.mono ?_; rintro e w1 ⟨A, hAs, rfl, hAe, hb1⟩; obtain rfl := hAe rfl; clear hAe)
          | (refine adj_alloc _ _ _ _ ?_)
          | (refine wpList_store_row rfl 89 (.tmp 7) (.tmp 12) rfl w1.heap.size (adjA (readAll es)) rfl rfl 89 (adjA fun _ => 0) (Blk.new w1 89 _) (size56 _) (by simp only [adjA_size]) (adj_one _) ?_
             have hA1 := blk_setRow (Blk.new w1 89 (adjA fun _ => 0)) (adjA (readAll es))
             have hB1 := blk_setRow_far (Blk.alloc (HB.out.keep hb1 (Blk.lt HB.out)) (.cells (adjA fun _ => 0) 89)) (g' := w1.heap.size) (by have := hb1.size; simp at this; omega) (adjA (readAll es))
             have hbw := below_setRow ((hbA.trans (hb1.mono (by simp))).alloc (by have := hb1.size; simp at this; omega) (.cells (adjA fun _ => 0) 89)) (g := w1.heap.size) (by have := hb1.size; simp at this; omega) (adjA (readAll es))
             have c0 := hB1.cell 0
             simp at c0
             generalize (w1.alloc (.cells (adjA fun _ => 0) 89)).setRow w1.heap.size (adjA (readAll es)) = W at hA1 hB1 hbw c0 ⊢))
        go_ret
        exact ⟨rfl, hbw⟩
      · have d3 : decide (0 ≤ j) = false := by simpa using h3
        clear hij
        go_enter Tryz.func26, Tryz.ntmps26
        go_wp2_with (first
          | (go_at_call 45; refine HR.out.mono ?_; rintro e w1 ⟨A, hAs, rfl, hAe, hb1⟩; obtain rfl := hAe rfl; clear hAe)
          | (refine adj_alloc _ _ _ _ ?_)
          | (refine wpList_store_row rfl 89 (.tmp 7) (.tmp 12) rfl w1.heap.size (adjA (readAll es)) rfl rfl 89 (adjA fun _ => 0) (Blk.new w1 89 _) (size56 _) (by simp only [adjA_size]) (adj_one _) ?_
             have hA1 := blk_setRow (Blk.new w1 89 (adjA fun _ => 0)) (adjA (readAll es))
             have hB1 := blk_setRow_far (Blk.alloc (HB.out.keep hb1 (Blk.lt HB.out)) (.cells (adjA fun _ => 0) 89)) (g' := w1.heap.size) (by have := hb1.size; simp at this; omega) (adjA (readAll es))
             have hbw := below_setRow ((hbA.trans (hb1.mono (by simp))).alloc (by have := hb1.size; simp at this; omega) (.cells (adjA fun _ => 0) 89)) (g := w1.heap.size) (by have := hb1.size; simp at this; omega) (adjA (readAll es))
             have c0 := hB1.cell 0
             simp at c0
             generalize (w1.alloc (.cells (adjA fun _ => 0) 89)).setRow w1.heap.size (adjA (readAll es)) = W at hA1 hB1 hbw c0 ⊢))
        go_ret
        exact ⟨rfl, hbw⟩
    · have d2 : decide (i < (n : Int)) = false := by simpa using h2
      clear hij
      go_enter Tryz.func26, Tryz.ntmps26
      go_wp2_with (first
        | (go_at_call 45; refine HR.out.mono ?_; rintro e w1 ⟨A, hAs, rfl, hAe, hb1⟩; obtain rfl := hAe rfl; clear hAe)
        | (refine adj_alloc _ _ _ _ ?_)
        | (refine wpList_store_row rfl 89 (.tmp 7) (.tmp 12) rfl w1.heap.size (adjA (readAll es)) rfl rfl 89 (adjA fun _ => 0) (Blk.new w1 89 _) (size56 _) (by simp only [adjA_size]) (adj_one _) ?_
           have hA1 := blk_setRow (Blk.new w1 89 (adjA fun _ => 0)) (adjA (readAll es))
           have hB1 := blk_setRow_far (Blk.alloc (HB.out.keep hb1 (Blk.lt HB.out)) (.cells (adjA fun _ => 0) 89)) (g' := w1.heap.size) (by have := hb1.size; simp at this; omega) (adjA (readAll es))
           have hbw := below_setRow ((hbA.trans (hb1.mono (by simp))).alloc (by have := hb1.size; simp at this; omega) (.cells (adjA fun _ => 0) 89)) (g := w1.heap.size) (by have := hb1.size; simp at this; omega) (adjA (readAll es))
           have c0 := hB1.cell 0
           simp at c0
           generalize (w1.alloc (.cells (adjA fun _ => 0) 89)).setRow w1.heap.size (adjA (readAll es)) = W at hA1 hB1 hbw c0 ⊢))
      go_ret
      exact ⟨rfl, hbw⟩
  · have d1 : decide (0 ≤ i) = false := by simpa using h1
    clear hij
    go_enter Tryz.func26, Tryz.ntmps26
    go_wp2_with (first
      | (go_at_call 45; refine HR.out.mono ?_; rintro e w1 ⟨A, hAs, rfl, hAe, hb1⟩; obtain rfl := hAe rfl; clear hAe)
      | (refine adj_alloc _ _ _ _ ?_)
      | (refine wpList_store_row rfl 89 (.tmp 7) (.tmp 12) rfl w1.heap.size (adjA (readAll es)) rfl rfl 89 (adjA fun _ => 0) (Blk.new w1 89 _) (size56 _) (by simp only [adjA_size]) (adj_one _) ?_
         have hA1 := blk_setRow (Blk.new w1 89 (adjA fun _ => 0)) (adjA (readAll es))
         have hB1 := blk_setRow_far (Blk.alloc (HB.out.keep hb1 (Blk.lt HB.out)) (.cells (adjA fun _ => 0) 89)) (g' := w1.heap.size) (by have := hb1.size; simp at this; omega) (adjA (readAll es))
         have hbw := below_setRow ((hbA.trans (hb1.mono (by simp))).alloc (by have := hb1.size; simp at this; omega) (.cells (adjA fun _ => 0) 89)) (g := w1.heap.size) (by have := hb1.size; simp at this; omega) (adjA (readAll es))
         have c0 := hB1.cell 0
         simp at c0
         generalize (w1.alloc (.cells (adjA fun _ => 0) 89)).setRow w1.heap.size (adjA (readAll es)) = W at hA1 hB1 hbw c0 ⊢))
    go_ret
    exact ⟨rfl, hbw⟩
theorem adj_bad (n : Int) (E : Option Addr) (c : Nat) (es : List (Int × Int)) (i j : Int) (w : World) (hE : EdgesAt w E es) (hl : es.length ≤ 1000000) (hv : ¬ valid n es) :
    Calls Tryz.prog 26 #[.agg #[.int .i64 n, .slice E es.length c], .int .i64 i, .int .i64 j] w fun e w' => e = .returned (.bool false) ∧ Below w.heap.size w w' := by
  have hr := read_all n E c es false (w.alloc (.cells #[.int .i64 n, .slice E es.length c] 40)) (hE.keep ((Below.refl _ _).alloc (Nat.le_refl _) _)) hl (by simp [hv])
  have hbA : Below w.heap.size w (w.alloc (.cells #[.int .i64 n, .slice E es.length c] 40)) := (Below.refl _ _).alloc (Nat.le_refl _) _
  have HR := Lib.hid hr
  clear hr hv
  go_enter Tryz.func26, Tryz.ntmps26
  go_wp2_with (first
    | (go_at_call 45; refine HR.out.mono ?_; rintro e w1 ⟨A, hAs, rfl, -, hb1⟩)
    | (refine adj_alloc _ _ _ _ ?_)
    | (refine wpList_store_row rfl 89 (.tmp 7) (.tmp 12) rfl w1.heap.size (adjA A) rfl rfl 89 (adjA fun _ => 0) (Blk.new w1 89 _) (size56 _) (by simp only [adjA_size]) (adj_one _) ?_
       have hbw := below_setRow ((hbA.trans (hb1.mono (by simp))).alloc (by have := hb1.size; simp at this; omega) (.cells (adjA fun _ => 0) 89)) (g := w1.heap.size) (by have := hb1.size; simp at this; omega) (adjA A)
       generalize (w1.alloc (.cells (adjA fun _ => 0) 89)).setRow w1.heap.size (adjA A) = W at hbw ⊢))
  go_ret
  exact ⟨rfl, hbw⟩
/-- What Adjacent answers. -/
def adjB (n : Int) (es : List (Int × Int)) (i j : Int) : Prop := valid n es ∧ (0 ≤ i ∧ i < n ∧ 0 ≤ j ∧ j < n) ∧ (readAll es i.toNat).testBit j.toNat = true
theorem adj_any (n : Int) (E : Option Addr) (c : Nat) (es : List (Int × Int)) (i j : Int) (b : Bool) (w : World) (hE : EdgesAt w E es) (hl : es.length ≤ 1000000) (hb : b = true ↔ adjB n es i j) :
    Calls Tryz.prog 26 #[.agg #[.int .i64 n, .slice E es.length c], .int .i64 i, .int .i64 j] w fun e w' => e = .returned (.bool b) ∧ Below w.heap.size w w' := by
  by_cases hv : valid n es
  · obtain ⟨m, rfl⟩ := Int.eq_ofNat_of_zero_le hv.1
    by_cases hij : 0 ≤ i ∧ i < m ∧ 0 ≤ j ∧ j < m
    · obtain ⟨i, rfl⟩ := Int.eq_ofNat_of_zero_le hij.1
      obtain ⟨j, rfl⟩ := Int.eq_ofNat_of_zero_le hij.2.2.1
      have e : b = (readAll es i).testBit j := by
        rw [Bool.eq_iff_iff, hb]
        exact ⟨fun h => h.2.2, fun h => ⟨hv, hij, h⟩⟩
      rw [e]
      exact adj_in m E c es i j w hE hl hv (by omega) (by omega)
    · obtain rfl : b = false := by
        cases b
        · rfl
        · exact absurd (hb.1 rfl).2.1 hij
      exact adj_out m E c es i j w hE hl hv hij
  · obtain rfl : b = false := by
      cases b
      · rfl
      · exact absurd (hb.1 rfl).1 hv
    exact adj_bad n E c es i j w hE hl hv
end Go.Proofs.Tg.Gx
end
