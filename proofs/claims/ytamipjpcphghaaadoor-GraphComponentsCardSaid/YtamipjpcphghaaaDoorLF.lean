/- The statement GraphComponents, walked. -/
import Derived.Test.YtamipjpcphghaaaDoorWX
import Derived.Test.YtamipjpcphghaaaDoorPL
import Derived.Test.YtamipjpcphghaaaDoorXH
import Derived.Test.YtamipjpcphghaaaDoorXF
import Derived.Test.YtamipjpcphghaaaDoorWS
namespace Go.Proofs.Tg
open Go.RowKit Go.Gr
set_option maxHeartbeats 4000000
set_option maxRecDepth 100000
theorem flat_take {ls : List (List Int)} {k : Nat} (hk : k < ls.length) : (ls.take (k + 1)).flatten.length = (ls.take k).flatten.length + ls[k].length := by
  rw [List.take_succ_eq_append_getElem hk, List.flatten_append, List.length_append]
  simp
theorem law_components (n : Int) (E : Option Addr) (es : List (Int × Int)) (c : Nat) (w : World) (hE : EdgesAt w E es) (hT : Tab w) :
    Calls Tryd.prog 9 #[.int .i64 n, .slice E es.length c] w fun e w' => e = .returned (.bool true) ∧ Below w.heap.size w w' := by
  by_cases hl : es.length ≤ 40
  · have HMD := Lib.hid (made_any n E c es w hE hl)
    clear hE
    go_enter Tryd.func9, Tryd.ntmps9
    go_upto_region 7 with (first
      | (go_at_call 16; refine HMD.out.mono ?_; rintro e w1 ⟨m, fs, F, d, hm8, hfv, hfl, rfl, hF, hb1⟩
         have HFV := Lib.hid hfv; clear hfv)
      | (go_at_call 30; refine (components_ok m F d fs _ (hF.keep ((Below.refl _ _).alloc (Nat.le_refl _) _)) (by omega) HFV.out (hT.below (hb1.alloc hb1.size _) hT.1)).mono ?_; rintro e w2 ⟨ls, V, dv, seen, sets, hO, hls, rfl, hV, hlm, hb2⟩
         have HQ : Hid (CompEs m fs ls) := Lib.hid (by rw [hls]; exact comp_es HFV.out hO)
         clear hO hls
         have hbw2 : Below w.heap.size w w2 := below_all (hb1.alloc hb1.size _) hb2
         have hF2 := (hF.keep ((Below.refl _ _).alloc (Nat.le_refl _) (.cells #[.int .i64 m, .slice F fs.length d] 25))).keep hb2
         have hB5 := (Blk.new w1 25 #[.int .i64 m, .slice F fs.length d]).keep hb2 (by simp)
         have s0 := hB5.cell 0
         simp at s0
         clear hF))
    have hw1 : w.heap.size ≤ w1.heap.size := hb1.size
    have hw12 : w1.heap.size < w2.heap.size := hB5.lt
    have m1 := fun W => make_ints m m (Nat.le_refl _) (by omega) W
    simp only [farr_made] at m1
    have HL8 : Hid (∀ l ∈ ls, l.length ≤ 1000) := Lib.hid (fun l h => by
      have h1 := HQ.out.asc l h
      have h2 := HQ.out.lt l h
      have : l.length ≤ m := by
        have key : ∀ (i : Nat) (hi : i < l.length), (i : Int) ≤ l[i] := by
          intro i
          induction i with
          | zero => intro hi; exact (h2 _ (List.getElem_mem _)).1
          | succ i ih =>
            intro hi
            have h3 := ih (by omega)
            have h4 := List.pairwise_iff_getElem.1 h1 i (i + 1) (by omega) hi (by omega)
            omega
        by_cases h0 : l.length = 0
        · omega
        · have h3 := key (l.length - 1) (by omega)
          have h4 := (h2 _ (List.getElem_mem (l := l) (n := l.length - 1) (by omega))).2
          omega
      omega)
    have HCNT : Hid (∀ i q, i < ls.length → q ≤ (ls.getD i []).length → (ls.take i).flatten.length + q ≤ m) := Lib.hid (by
      intro i q hi hq
      have e := comp_count HQ.out
      have h1 : ls.getD i [] = ls[i] := by simp [hi]
      rw [h1] at hq
      have h2 := flat_take hi
      have h3 : ls.flatten.length = (ls.take (i + 1)).flatten.length + (ls.drop (i + 1)).flatten.length := by
        rw [← List.length_append, ← List.flatten_append, List.take_append_drop]
      omega)
    go_wp2
    have hP0 := Blk.new w2 3 (farr m fun _ => .int .i64 0)
    have hB50 := hB5.alloc (.cells (farr m fun _ => .int .i64 0) 3)
    have hbX : Below w2.heap.size w2 (w2.alloc (.cells (farr m fun _ => .int .i64 0) 3)) := (Below.refl _ _).alloc (Nat.le_refl _) _
    generalize w2.alloc (.cells (farr m fun _ => .int .i64 0) 3) = W0 at hP0 hB50 hbX ⊢
    clear s0 hB5
    generalize hG : w2.heap.size = G at hP0
    have HG := Lib.hid hG
    have hGle : w2.heap.size ≤ G := by omega
    have hG1 : w1.heap.size < G := by omega
    clear hG
    go_loopw [11, 10] (fun i s wr => ∃ (k cn : Nat) (P : Nat → Nat), i = .int .i64 k ∧ k ≤ ls.length ∧ s = .int .i64 cn ∧ cn ≤ m ∧ Hid (cn = (ls.take k).flatten.length) ∧ Hid (PartInv ls k 0 P) ∧ Blk wr G 3 (farr m fun v => .int .i64 (P v : Nat)) ∧ Blk wr w1.heap.size 25 #[.int .i64 m, .slice F fs.length d] ∧ Below w2.heap.size w2 wr) (fun i _ _ => ls.length - (intOf i).toNat)
    case atStart => exact ⟨0, 0, fun _ => 0, rfl, Nat.zero_le _, rfl, Nat.zero_le _, Lib.hid (by simp), Lib.hid (part_start ls), hP0, hB50, hbX⟩
    case round =>
      clear hP0 hB50 hbX
      obtain ⟨wo, rfl⟩ : ∃ wo : World, wo = wr := ⟨_, rfl⟩
      obtain ⟨k, cn, P, rfl, hk, rfl, hcm, HC, HP, hP, hB, hb⟩ := hrel
      by_cases hkl : k < ls.length
      · have hkb : decide ((k : Int) < (ls.length : Int)) = true := by simp; omega
        obtain ⟨vd, A, cl, rfl, hcv0, hA0⟩ := Lists.at hV hkl
        have hcvo := keep_cell hb hcv0
        have eg : ls.getD k [] = ls[k] := by simp [hkl]
        have hl8 := HL8.out ls[k] (List.getElem_mem _)
        have HLT := Lib.hid (HQ.out.lt ls[k] (List.getElem_mem _))
        have HAS := Lib.hid (HQ.out.asc ls[k] (List.getElem_mem _))
        have HFT := Lib.hid (flat_take hkl)
        have HEG := Lib.hid eg
        have HCK := Lib.hid (fun q => HCNT.out k q hkl)
        rw [eg] at HCK
        clear eg
        generalize ls[k] = l at hcv0 hcvo hA0 hl8 HLT HAS HFT HEG HCK
        have HVV := Lib.hid hV
        clear hV
        have k0 : (0 : Int) ≤ (k : Int) := by omega
        have k1 : (k : Int) < (ls.length : Int) := by omega
        go_wp2
        go_loopw [12, 10] (fun j s wr => ∃ (q cq : Nat) (P : Nat → Nat), j = .int .i64 q ∧ q ≤ l.length ∧ s = .int .i64 cq ∧ Hid (cq = cn + q) ∧ cq ≤ m ∧ Hid (PartInv ls k q P) ∧ Blk wr G 3 (farr m fun v => .int .i64 (P v : Nat)) ∧ Blk wr w1.heap.size 25 #[.int .i64 m, .slice F fs.length d] ∧ Below w2.heap.size w2 wr) (fun j _ _ => l.length - (intOf j).toNat)
        case atStart => exact ⟨0, cn, P, rfl, Nat.zero_le _, rfl, Lib.hid rfl, hcm, HP, hP, hB, hb⟩
        case round =>
          clear hP hB hb HP hcvo
          obtain ⟨q, cq, P, rfl, hq, rfl, HCQ, hcq, HP, hP, hB, hb⟩ := hrel
          have hcv := keep_cell hb hcv0
          have hA := hA0.keep hb
          have b0 := hB.cell 0
          simp at b0
          by_cases hql : q < l.length
          · have hqb : decide ((q : Int) < (l.length : Int)) = true := by simp; omega
            obtain ⟨bd, rfl, hcx⟩ := Ints.at hA hql
            have hprev : 0 < q → ∃ y : Int, l[q - 1]'(by omega) = y ∧ y < l[q] ∧ wr.cell? (bd.add (q - 1)) = some (.int .i64 y) := by
              intro h0
              obtain ⟨ad', e, g1⟩ := Ints.at hA (k := q - 1) (by omega)
              injection e with e
              subst e
              exact ⟨_, rfl, List.pairwise_iff_getElem.1 HAS.out (q - 1) q (by omega) hql (by omega), g1⟩
            have hx := HLT.out l[q] (List.getElem_mem _)
            obtain ⟨x, ex⟩ : ∃ x : Nat, l[q] = (x : Int) := ⟨l[q].toNat, by omega⟩
            have hnew := part_new HQ.out HP.out hkl (x := x) (q := q) (by rw [HEG.out]; exact hql) (by simp only [HEG.out]; exact ex)
            rw [ex] at hcx hx hprev
            have HNW := Lib.hid hnew.2
            have hPx := hnew.1
            have hxm : x < m := by omega
            have cP := (hP.cell x).trans (farr_at m _ hxm)
            have fP := hP.frozen x
            rw [hPx] at cP
            have HCK1 := HCK.out (q + 1) (by omega)
            have hcq1 : cq + 1 ≤ m := by have := HCQ.out; have := HC.out; omega
            have HCQ2 : Hid (cq + 1 = cn + (q + 1)) := Lib.hid (by have := HCQ.out; omega)
            clear hnew hPx ex HCK1
            have d1 : decide ((x : Int) < 0) = false := by simp
            have d2 : decide ((m : Int) ≤ (x : Int)) = false := by simp; omega
            have d2' : decide (m ≤ x) = false := by simp; omega
            have hPset := hP.set x (.int .i64 ((k + 1 : Nat) : Int))
            rw [farr_upd (fun v : Nat => Value.int .i64 (v : Int))] at hPset
            have HPS := Lib.hid hPset
            have hBset := hB.far (p := ⟨G, x, none⟩) (by simp; omega) (.int .i64 ((k + 1 : Nat) : Int))
            have HBS := Lib.hid hBset
            have HBL : Hid (Below w2.heap.size w2 (wr.setCell ⟨G, x, none⟩ (.int .i64 ((k + 1 : Nat) : Int)))) := Lib.hid (hb.setCell (by simpa using hGle) _)
            clear hPset hBset hA
            by_cases hq0 : q = 0
            · have d3 : decide ((0 : Int) < (q : Int)) = false := by simp; omega
              have d3' : decide (0 < q) = false := by simp; omega
              clear hprev hq0
              go_wp2
              go_roundw
              case rel => exact ⟨q + 1, cq + 1, updF P x (k + 1), by go_num, by omega, by go_num, HCQ2, hcq1, HNW, HPS.out, HBS.out, HBL.out⟩
              case measure => simp [intOf]; omega
            · have hqp : 0 < q := by omega
              obtain ⟨y, -, hyx, hcy⟩ := hprev hqp
              have d3 : decide ((0 : Int) < (q : Int)) = true := by simp; omega
              have d3' : decide (0 < q) = true := by simp; omega
              have d4 : decide ((x : Int) ≤ y) = false := by simp; omega
              clear hprev hq0
              go_wp2
              go_roundw
              case rel => exact ⟨q + 1, cq + 1, updF P x (k + 1), by go_num, by omega, by go_num, HCQ2, hcq1, HNW, HPS.out, HBS.out, HBL.out⟩
              case measure => simp [intOf]; omega
          · obtain rfl : q = l.length := by omega
            have hqb : decide ((l.length : Int) < (l.length : Int)) = false := by simp
            have HC2 : Hid (cq = (ls.take (k + 1)).flatten.length) := Lib.hid (by rw [HFT.out, HCQ.out, HC.out])
            have HP2 : Hid (PartInv ls (k + 1) 0 P) := Lib.hid (part_row (by rw [HEG.out]; exact HP.out))
            go_wp2
            go_roundw
            case rel => exact ⟨k + 1, cq, P, by go_num, by omega, rfl, hcq, HC2, HP2, hP, hB, hb⟩
            case measure => simp [intOf]; omega
      · obtain rfl : k = ls.length := by omega
        have hkb : decide ((ls.length : Int) < (ls.length : Int)) = false := by simp
        obtain rfl : cn = m := by
          rw [HC.out, List.take_length]; exact comp_count HQ.out
        have hne0 : ((cn : Int) != (cn : Int)) = false := by simp
        have b0 := hB.cell 0
        simp at b0
        have m2 := fun W => make_ints cn cn (Nat.le_refl _) (by omega) W
        simp only [farr_made] at m2
        go_wp2
        clear hne0 hkb b0 m2
        have hR0 := Blk.new wo 3 (farr cn fun _ => .int .i64 0)
        have hP1 := hP.alloc (.cells (farr cn fun _ => .int .i64 0) 3)
        have hB1 := hB.alloc (.cells (farr cn fun _ => .int .i64 0) 3)
        have hbX : Below w2.heap.size w2 (wo.alloc (.cells (farr cn fun _ => .int .i64 0) 3)) := hb.alloc hb.size _
        have hGR : G < wo.heap.size := hP.lt
        have hwo : w2.heap.size ≤ wo.heap.size := hb.size
        generalize wo.alloc (.cells (farr cn fun _ => .int .i64 0) 3) = W1 at hR0 hP1 hB1 hbX ⊢
        generalize wo.heap.size = Gr at hR0 hGR hwo ⊢
        clear hP hB hb hV HL8 HCNT HC
        go_loopw [15] (fun i wr => ∃ k : Nat, i = .int .i64 k ∧ k ≤ cn ∧ Blk wr Gr 3 (farr cn fun v => .int .i64 ((if v < k then v else 0 : Nat) : Int)) ∧ Blk wr G 3 (farr cn fun v => .int .i64 (P v : Nat)) ∧ Blk wr w1.heap.size 25 #[.int .i64 cn, .slice F fs.length d] ∧ Below w2.heap.size w2 wr) (fun i _ => cn - (intOf i).toNat)
        case atStart => exact ⟨0, rfl, Nat.zero_le _, by simpa using hR0, hP1, hB1, hbX⟩
        case round =>
          clear hR0 hP1 hB1 hbX
          obtain ⟨k, rfl, hk, hR, hP, hB, hb⟩ := hrel
          have b0 := hB.cell 0
          simp at b0
          by_cases hkl : k < cn
          · have hkb : decide ((k : Int) < (cn : Int)) = true := by simp; omega
            have cR := (hR.cell k).trans (farr_at cn _ hkl)
            rw [if_neg (by omega)] at cR
            have fR := hR.frozen k
            have hRs := hR.set k (.int .i64 (k : Int))
            rw [farr_upd (fun v : Nat => Value.int .i64 (v : Int))] at hRs
            have HRS : Hid (Blk (wr.setCell ⟨Gr, k, none⟩ (.int .i64 (k : Int))) Gr 3 (farr cn fun v => .int .i64 ((if v < k + 1 then v else 0 : Nat) : Int))) := Lib.hid (by
              rw [show (farr cn fun v => Value.int .i64 ((if v < k + 1 then v else 0 : Nat) : Int)) = farr cn fun v => Value.int .i64 ((updF (fun v => if v < k then v else 0) k k v : Nat) : Int) from farr_congr (fun v _ => by
                unfold updF
                by_cases e : v = k
                · simp [e]
                · rw [if_neg e]
                  by_cases h2 : v < k
                  · simp [h2, show v < k + 1 by omega]
                  · simp [h2, show ¬ v < k + 1 by omega])]
              exact hRs)
            have HPS := Lib.hid (hP.far (p := ⟨Gr, k, none⟩) (by simp; omega) (.int .i64 (k : Int)))
            have HBS := Lib.hid (hB.far (p := ⟨Gr, k, none⟩) (by simp; omega) (.int .i64 (k : Int)))
            have HBL := Lib.hid (hb.setCell (p := ⟨Gr, k, none⟩) (by simpa using hwo) (.int .i64 (k : Int)))
            clear hRs
            go_wp2
            go_roundw
            case rel => exact ⟨k + 1, by go_num, by omega, HRS.out, HPS.out, HBS.out, HBL.out⟩
            case measure => simp [intOf]; omega
          · obtain rfl : k = cn := by omega
            have hkb : decide ((k : Int) < (k : Int)) = false := by simp
            have hR1 : Blk wr Gr 3 (farr k fun v => .int .i64 (reachTo fs 0 v : Nat)) := by
              rw [show (farr k fun v => Value.int .i64 (reachTo fs 0 v : Nat)) = farr k fun v => Value.int .i64 ((if v < k then v else 0 : Nat) : Int) from farr_congr (fun v hv => by simp [hv, reachTo])]
              exact hR
            clear hR hkl hk
            go_wp2
            clear b0
            go_loopw [16] (fun i wr => ∃ r : Nat, i = .int .i64 r ∧ r ≤ k ∧ Blk wr Gr 3 (farr k fun v => .int .i64 (reachTo fs r v : Nat)) ∧ Blk wr G 3 (farr k fun v => .int .i64 (P v : Nat)) ∧ Blk wr w1.heap.size 25 #[.int .i64 k, .slice F fs.length d] ∧ Below w2.heap.size w2 wr) (fun i _ => k - (intOf i).toNat)
            case atStart => exact ⟨0, rfl, Nat.zero_le _, hR1, hP, hB, hb⟩
            case round =>
              clear hR1 hP hB hb hkb
              obtain ⟨r, rfl, hr, hR, hP, hB, hb⟩ := hrel
              have b0 := hB.cell 0
              simp at b0
              by_cases hrl : r < k
              · have hrb : decide ((r : Int) < (k : Int)) = true := by simp; omega
                have HN : Hid (reachTo fs (r + 1) = roundR fs (reachTo fs r)) := Lib.hid rfl
                generalize reachTo fs r = f at HN hR
                go_wp2
                clear b0
                go_loopw [17] (fun i wr => ∃ q : Nat, i = .int .i64 q ∧ q ≤ fs.length ∧ Blk wr Gr 3 (farr k fun v => .int .i64 (roundR (fs.take q) f v : Nat)) ∧ Blk wr G 3 (farr k fun v => .int .i64 (P v : Nat)) ∧ Blk wr w1.heap.size 25 #[.int .i64 k, .slice F fs.length d] ∧ Below w2.heap.size w2 wr) (fun i _ => fs.length - (intOf i).toNat)
                case atStart => exact ⟨0, rfl, Nat.zero_le _, hR, hP, hB, hb⟩
                case round =>
                  clear hR hP hB hb
                  obtain ⟨q, rfl, hq, hR, hP, hB, hb⟩ := hrel
                  have b1 := hB.cell 1
                  simp at b1
                  by_cases hql : q < fs.length
                  · have hqb : decide ((q : Int) < (fs.length : Int)) = true := by simp; omega
                    obtain ⟨ad, rfl, hc1, hc2⟩ := EdgesAt.at (hF2.keep hb) hql
                    have hgood := valid_good HFV.out fs[q] (List.getElem_mem _)
                    have HS : Hid (roundR (fs.take (q + 1)) f = stepR (roundR (fs.take q) f) fs[q]) := Lib.hid (by rw [List.take_succ_eq_append_getElem hql, roundR_snoc])
                    obtain ⟨x, y, hp⟩ : ∃ x y, fs[q] = (x, y) := ⟨_, _, rfl⟩
                    rw [hp] at hc1 hc2 hgood HS
                    clear hp
                    obtain ⟨g1, g2, g3⟩ := hgood
                    simp only at hc1 hc2 g1 g2 g3
                    obtain ⟨a, rfl⟩ := Int.eq_ofNat_of_zero_le g1
                    obtain ⟨b, rfl⟩ := Int.eq_ofNat_of_zero_le (show 0 ≤ y by omega)
                    have ha : a < k := by omega
                    have hbk : b < k := by omega
                    generalize roundR (fs.take q) f = g at HS hR
                    have HS2 : Hid (roundR (fs.take (q + 1)) f = updF (updF g a (min (g a) (g b))) b (min (g a) (g b))) := Lib.hid (by rw [HS.out]; simp [stepR])
                    have ca := (hR.cell a).trans (farr_at k _ ha)
                    have cb := (hR.cell b).trans (farr_at k _ hbk)
                    have fa := hR.frozen a
                    have fb := hR.frozen b
                    have a0 : (0 : Int) ≤ (a : Int) := by omega
                    have a1 : (a : Int) < (k : Int) := by omega
                    have bb0 : (0 : Int) ≤ (b : Int) := by omega
                    have bb1 : (b : Int) < (k : Int) := by omega
                    have q0 : (0 : Int) ≤ (q : Int) := by omega
                    have q1 : (q : Int) < (fs.length : Int) := by omega
                    have hRs := (hR.set a (.int .i64 ((min (g a) (g b) : Nat) : Int))).set b (.int .i64 ((min (g a) (g b) : Nat) : Int))
                    rw [farr_upd (fun v : Nat => Value.int .i64 (v : Int)), farr_upd (fun v : Nat => Value.int .i64 (v : Int)), ← HS2.out] at hRs
                    have HRS := Lib.hid hRs
                    have HPS := Lib.hid ((hP.far (p := ⟨Gr, a, none⟩) (by simp; omega) (.int .i64 ((min (g a) (g b) : Nat) : Int))).far (p := ⟨Gr, b, none⟩) (by simp; omega) (.int .i64 ((min (g a) (g b) : Nat) : Int)))
                    have HBS := Lib.hid ((hB.far (p := ⟨Gr, a, none⟩) (by simp; omega) (.int .i64 ((min (g a) (g b) : Nat) : Int))).far (p := ⟨Gr, b, none⟩) (by simp; omega) (.int .i64 ((min (g a) (g b) : Nat) : Int)))
                    have HBL := Lib.hid ((hb.setCell (p := ⟨Gr, a, none⟩) (by simpa using hwo) (.int .i64 ((min (g a) (g b) : Nat) : Int))).setCell (p := ⟨Gr, b, none⟩) (by simpa using hwo) (.int .i64 ((min (g a) (g b) : Nat) : Int)))
                    clear hRs HS HS2 hF2
                    generalize g a = ga at ca HRS HPS HBS HBL
                    generalize g b = gb at cb HRS HPS HBS HBL
                    by_cases hlt : gb < ga
                    · rw [show min ga gb = gb from by omega] at HRS HPS HBS HBL
                      go_wp2
                      go_quiet (fail)
                      go_wp2
                      go_quiet (fail)
                      go_wp2
                      go_roundw
                      case rel => exact ⟨q + 1, by go_num, by omega, HRS.out, HPS.out, HBS.out, below_drewN HBL.out _⟩
                      case measure => simp [intOf]; omega
                    · rw [show min ga gb = ga from by omega] at HRS HPS HBS HBL
                      go_wp2
                      go_quiet (fail)
                      go_wp2
                      go_quiet (fail)
                      go_wp2
                      go_roundw
                      case rel => exact ⟨q + 1, by go_num, by omega, HRS.out, HPS.out, HBS.out, below_drewN HBL.out _⟩
                      case measure => simp [intOf]; omega
                  · obtain rfl : q = fs.length := by omega
                    have hqb : decide ((fs.length : Int) < (fs.length : Int)) = false := by simp
                    have hR2 : Blk wr Gr 3 (farr k fun v => .int .i64 (reachTo fs (r + 1) v : Nat)) := by
                      rw [List.take_length] at hR
                      rw [HN.out]; exact hR
                    clear hR HN
                    go_wp2
                    go_roundw
                    case rel => exact ⟨r + 1, by go_num, by omega, hR2, hP, hB, hb⟩
                    case measure => simp [intOf]; omega
              · obtain rfl : r = k := by omega
                have hrb : decide ((r : Int) < (r : Int)) = false := by simp
                go_wp2
                clear b0 hrb hrl hr
                go_loopw [21] (fun i wr => ∃ i0 : Nat, i = .int .i64 i0 ∧ i0 ≤ r ∧ Blk wr Gr 3 (farr r fun v => .int .i64 (reachTo fs r v : Nat)) ∧ Blk wr G 3 (farr r fun v => .int .i64 (P v : Nat)) ∧ Blk wr w1.heap.size 25 #[.int .i64 r, .slice F fs.length d] ∧ Below w2.heap.size w2 wr) (fun i _ => r - (intOf i).toNat)
                case atStart => exact ⟨0, rfl, Nat.zero_le _, hR, hP, hB, hb⟩
                case round =>
                  clear hR hP hB hb
                  obtain ⟨i, rfl, hi, hR, hP, hB, hb⟩ := hrel
                  have b0 := hB.cell 0
                  simp at b0
                  by_cases hil : i < r
                  · have hib : decide ((i : Int) < (r : Int)) = true := by simp; omega
                    go_wp2
                    clear b0
                    go_loopw [22] (fun j wr => ∃ j0 : Nat, j = .int .i64 j0 ∧ j0 ≤ r ∧ Blk wr Gr 3 (farr r fun v => .int .i64 (reachTo fs r v : Nat)) ∧ Blk wr G 3 (farr r fun v => .int .i64 (P v : Nat)) ∧ Blk wr w1.heap.size 25 #[.int .i64 r, .slice F fs.length d] ∧ Below w2.heap.size w2 wr) (fun j _ => r - (intOf j).toNat)
                    case atStart => exact ⟨0, rfl, Nat.zero_le _, hR, hP, hB, hb⟩
                    case round =>
                      clear hR hP hB hb
                      obtain ⟨j, rfl, hj, hR, hP, hB, hb⟩ := hrel
                      have b0 := hB.cell 0
                      simp at b0
                      by_cases hjl : j < r
                      · have hjb : decide ((j : Int) < (r : Int)) = true := by simp; omega
                        have HPI := Lib.hid (part_iff HQ.out HP.out hil hjl)
                        have HRI := Lib.hid (reach_iff HFV.out (k := j) hil)
                        have cpi := (hP.cell i).trans (farr_at r _ hil)
                        have cpj := (hP.cell j).trans (farr_at r _ hjl)
                        have cri := (hR.cell i).trans (farr_at r _ hil)
                        have crj := (hR.cell j).trans (farr_at r _ hjl)
                        have i0 : (0 : Int) ≤ (i : Int) := by omega
                        have i1 : (i : Int) < (r : Int) := by omega
                        have j0 : (0 : Int) ≤ (j : Int) := by omega
                        have j1 : (j : Int) < (r : Int) := by omega
                        have HW := Lib.hid (And.intro hR (And.intro hP hB))
                        clear hR hP hB
                        generalize P i = pi at HPI cpi
                        generalize P j = pj at HPI cpj
                        generalize reachTo fs r i = ri at HRI cri
                        generalize reachTo fs r j = rj at HRI crj
                        by_cases he : pi = pj
                        · have he2 : ri = rj := HRI.out.2 (HPI.out.1 he)
                          subst he
                          subst he2
                          clear HPI HRI
                          go_wp2
                          go_quiet (fail)
                          go_wp2
                          go_roundw
                          case rel => exact ⟨j + 1, by go_num, by omega, HW.out.1, HW.out.2.1, HW.out.2.2, below_drewN hb _⟩
                          case measure => simp [intOf]; omega
                        · have he2 : ri ≠ rj := fun e => he (HPI.out.2 (HRI.out.1 e))
                          have z1 : ((pi : Int) == (pj : Int)) = false := beq_eq_false_iff_ne.2 (by omega)
                          have z2 : ((ri : Int) == (rj : Int)) = false := beq_eq_false_iff_ne.2 (by omega)
                          clear HPI HRI he he2
                          go_wp2
                          go_quiet (fail)
                          go_wp2
                          go_roundw
                          case rel => exact ⟨j + 1, by go_num, by omega, HW.out.1, HW.out.2.1, HW.out.2.2, below_drewN hb _⟩
                          case measure => simp [intOf]; omega
                      · obtain rfl : j = r := by omega
                        have hjb : decide ((j : Int) < (j : Int)) = false := by simp
                        go_wp2
                        go_roundw
                        case rel => exact ⟨i + 1, by go_num, by omega, hR, hP, hB, hb⟩
                        case measure => simp [intOf]; omega
                  · obtain rfl : i = r := by omega
                    have hib : decide ((i : Int) < (i : Int)) = false := by simp
                    have hbw5 : Below w.heap.size w wr := below_all hbw2 hb
                    go_wp2_with (go_at_call 12; refine (awake_any _ (hT.below hbw5 hT.1)).mono ?_; rintro e w5 ⟨rfl, hb5⟩)
                    go_ret
                    exact ⟨rfl, below_all hbw5 hb5⟩
  · have HMD := Lib.hid (made_long n E c es w (by omega))
    have hb : decide ((40 : Int) < (es.length : Int)) = true := by simp; omega
    clear hE
    go_enter Tryd.func9, Tryd.ntmps9
    go_wp2_with (first
      | (go_at_call 16; refine HMD.out.mono ?_; rintro e w1 ⟨rfl, hb1⟩)
      | (go_at_call 12; refine (awake_any _ (hT.below (hb1.alloc hb1.size _) hT.1)).mono ?_; rintro e w4 ⟨rfl, hb4⟩))
    go_ret
    exact ⟨rfl, below_all (hb1.alloc hb1.size _) hb4⟩
end Go.Proofs.Tg
