/- The statement GraphIntersection, walked. -/
import Derived.Test.YtamipjpcphghaaaDoorLD
import Derived.Test.YtamipjpcphghaaaDoorPJ
namespace Go.Gr
theorem cnt_snoc (p : Nat → Bool) (k : Nat) : ((List.range (k + 1)).filter p).length = ((List.range k).filter p).length + if p k = true then 1 else 0 := by
  rw [List.range_succ, List.filter_append, List.length_append]
  cases h : p k <;> simp [h]
theorem nSets_succ (ls : List (List Int)) (v : Int) (k : Nat) : nSets ls v (k + 1) = nSets ls v k + if v ∈ ls.getD k [] then 1 else 0 := by
  unfold nSets
  rw [cnt_snoc]
  simp only [decide_eq_true_eq]
theorem nLinks_succ (ls : List (List Int)) (ts : List Int) (v : Int) (k : Nat) : nLinks ls ts v (k + 1) = nLinks ls ts v k + if v ∈ ls.getD k [] ∧ 0 ≤ ts.getD k 0 ∧ v ∈ ls.getD (ts.getD k 0).toNat [] then 1 else 0 := by
  unfold nLinks
  rw [cnt_snoc]
  simp only [Bool.and_eq_true, decide_eq_true_eq]
end Go.Gr
namespace Go.Proofs.Tg
open Go.RowKit Go.Gr
set_option maxHeartbeats 4000000
set_option maxRecDepth 100000
def RetTreeEs (n : Nat) (ls : List (List Int)) (w : World) (e : Ending) (w' : World) : Prop :=
  ∃ ts A c, TreeEs n ls ts ∧ e = .returned (.tuple #[.slice A ls.length c, .int .i64 0]) ∧ Ints w' A ts ∧ Below w.heap.size w w'
theorem treees_any {n : Nat} {es : List (Int × Int)} (h : valid n es) (hc : isChordal (readAll es) n = true) {ls : List (List Int)} (hp : ls.Perm ((keepLast (cands (readAll es) n)).map vertsI)) (h8 : n ≤ 8) (V : Option Addr) (d : Nat) (w : World) (hV : Lists w V ls) :
    Calls Tryd.prog 22 #[.slice V ls.length d] w (RetTreeEs n ls w) := by
  have hQ := clq_es h hc hp
  have hT := tree_es h hc hp
  refine (tree_ok V d ls w hV (by have := hQ.few; omega) (fun l hl => by have := asc_short (hQ.asc l hl) (hQ.lt l hl); omega) (fun l hl => ⟨hQ.one l hl, ?_⟩)).mono ?_
  · have h1 := hQ.asc l hl
    have h2 := hQ.lt l hl
    intro i hi _
    have h3 := h2 l[i] (List.getElem_mem _)
    exact ⟨by omega, fun h0 => List.pairwise_iff_getElem.1 h1 (i - 1) i (by omega) hi (by omega)⟩
  · rintro e w' ⟨A, c, h1, h2, h3⟩
    refine ⟨_, A, c, hT, h1, ?_, h3⟩
    show Sl _ _ _ 1 _
    rw [hT.len]
    exact Sl.own h2
theorem law_intersection (n : Int) (E : Option Addr) (es : List (Int × Int)) (c : Nat) (w : World) (hE : EdgesAt w E es) (hT : Tab w) :
    Calls Tryd.prog 6 #[.int .i64 n, .slice E es.length c] w fun e w' => e = .returned (.bool true) ∧ Below w.heap.size w w' := by
  by_cases hl : es.length ≤ 40
  · have HMD := Lib.hid (made_any n E c es w hE hl)
    clear hE
    go_enter Tryd.func6, Tryd.ntmps6
    go_wp2_with (first
      | (go_at_call 16; refine HMD.out.mono ?_; rintro e w1 ⟨m, fs, F, d, hm8, hfv, hfl, rfl, hF, hb1⟩
         have HFV := Lib.hid hfv; clear hfv)
      | (go_at_call 25; refine (ext_any m F d fs _ (hF.keep ((Below.refl _ _).alloc (Nat.le_refl _) _)) (by omega) HFV.out (hT.below (hb1.alloc hb1.size _) hT.1)).mono ?_; rintro e w2 ⟨xs, G, dg, hx, hxl, rfl, hG, hb2⟩
         have HX := Lib.hid hx; clear hx
         have hbw2 : Below w.heap.size w w2 := below_all (hb1.alloc hb1.size _) hb2
         clear hF)
      | (go_at_call 18; refine (clq_any m G dg xs _ (hG.keep ((Below.refl _ _).alloc (Nat.le_refl _) _)) (by omega) HX.out.valid HX.out.chord (by omega) (hT.below (hbw2.alloc hbw2.size _) hT.1)).mono ?_; rintro e w3 ⟨ls, V, dv, hq, rfl, hV, hperm, -, hb3⟩
         have HQ := Lib.hid hq; clear hq
         have HTR := Lib.hid (fun W hW => treees_any HX.out.valid HX.out.chord hperm hm8 V dv W hW); clear hperm
         have hne0 : ((ls.length : Int) != (ls.length : Int)) = false := by simp
         have hbw3 : Below w.heap.size w w3 := below_all (hbw2.alloc hbw2.size _) hb3
         have hB7 := (Blk.new w2 25 #[.int .i64 m, .slice G xs.length dg]).keep hb3 (by simp)
         clear hG)
      | (go_at_call 22; refine (HTR.out w3 hV).mono ?_; rintro e w4 ⟨ts, At, dt, htr, rfl, hTs, hb4⟩
         have HTE := Lib.hid htr; clear htr
         have hbw4 : Below w.heap.size w w4 := below_all hbw3 hb4
         have hV4 := hV.keep hb4
         have hB74 := hB7.keep hb4 hB7.lt
         clear hV hB7))
    have HL8 : Hid (∀ l ∈ ls, l.length ≤ 8) := Lib.hid (fun l h => by have := asc_short (HQ.out.asc l h) (HQ.out.lt l h); omega)
    have hfew := HQ.out.few
    clear hne0
    go_loopw [13] (fun i wr => ∃ v : Nat, i = .int .i64 v ∧ v ≤ m ∧ Below w4.heap.size w4 wr) (fun i _ => m - (intOf i).toNat)
    case atStart => exact ⟨0, rfl, Nat.zero_le _, Below.refl _ _⟩
    case round =>
      obtain ⟨wo, rfl⟩ : ∃ wo : World, wo = wr := ⟨_, rfl⟩
      obtain ⟨v, rfl, hv, hbr⟩ := hrel
      have hB7o := hB74.keep hbr hB74.lt
      have r0 := hB7o.cell 0
      simp at r0
      by_cases hvm : v < m
      · have hvb : decide ((v : Int) < (m : Int)) = true := by simp; omega
        have HRUN := Lib.hid (HTE.out.run v hvm)
        go_wp2
        go_loopw [16, 14, 15] (fun i s t wr => ∃ k a b : Nat, i = .int .i64 k ∧ s = .int .i64 a ∧ t = .int .i64 b ∧ k ≤ ls.length ∧ a ≤ k ∧ b ≤ k ∧ Hid (a = nSets ls v k) ∧ Hid (b = nLinks ls ts v k) ∧ Below w4.heap.size w4 wr) (fun i _ _ _ => ls.length - (intOf i).toNat)
        case atStart => exact ⟨0, 0, 0, rfl, rfl, rfl, Nat.zero_le _, Nat.zero_le _, Nat.zero_le _, Lib.hid (by simp [nSets]), Lib.hid (by simp [nLinks]), hbr⟩
        case round =>
          clear hbr hB7o r0
          obtain ⟨k, a, b, rfl, rfl, rfl, hk, hak, hbk, HA, HB, hbr⟩ := hrel
          by_cases hkl : k < ls.length
          · have hkb : decide ((k : Int) < (ls.length : Int)) = true := by simp; omega
            obtain ⟨vd, A, cl, rfl, hcv, hAr⟩ := Lists.at (hV4.keep hbr) hkl
            have HV5 := Lib.hid (hV4.keep hbr)
            have htl : k < ts.length := by have := HTE.out.len; omega
            have hrange := HTE.out.range k hkl
            have eg : ls.getD k [] = ls[k] := by simp [hkl]
            have HNS := Lib.hid (nSets_succ ls (v : Int) k)
            have HNL := Lib.hid (nLinks_succ ls ts (v : Int) k)
            rw [eg] at HNS HNL
            have hl8 := HL8.out ls[k] (List.getElem_mem _)
            obtain ⟨td, rfl, hct⟩ := Ints.at (hTs.keep hbr) htl
            have et : ts.getD k 0 = ts[k] := by simp [htl]
            rw [et] at HNL hrange
            clear eg et
            generalize ts[k] = x at HNL hrange hct
            generalize ls[k] = l at HNS HNL hcv hAr hl8
            obtain ⟨x1, x2, x3⟩ := hrange
            have d1 : decide (x < -1) = false := by simp; omega
            have d2 : decide ((ls.length : Int) ≤ x) = false := by simp; omega
            have d3 : (x == (k : Int)) = false := beq_eq_false_iff_ne.2 (by omega)
            have HX3 := Lib.hid x3
            clear x3
            by_cases hvl : (v : Int) ∈ l
            · have HH := Lib.hid (has_list A cl l (v : Int) true wr hAr (by omega) (by simp [hvl]))
              rw [if_pos hvl] at HNS
              by_cases hx0 : 0 ≤ x
              · obtain ⟨xn, rfl⟩ := Int.eq_ofNat_of_zero_le hx0
                have hxl : xn < ls.length := by omega
                have d4 : decide ((0 : Int) ≤ (xn : Int)) = true := by simp
                obtain ⟨vd', A2, cl2, ev, hcv2, hAr2⟩ := Lists.at HV5.out hxl
                injection ev with ev
                subst ev
                have eg2 : ls.getD xn [] = ls[xn] := by simp [hxl]
                rw [Int.toNat_natCast, eg2] at HNL
                have hl82 := HL8.out ls[xn] (List.getElem_mem _)
                clear eg2
                generalize ls[xn] = l2 at HNL hcv2 hAr2 hl82
                have xi0 : (0 : Int) ≤ (xn : Int) := by omega
                have xi1 : (xn : Int) < (ls.length : Int) := by omega
                by_cases hvl2 : (v : Int) ∈ l2
                · have HH2 := Lib.hid (has_list A2 cl2 l2 (v : Int) true wr hAr2 (by omega) (by simp [hvl2]))
                  rw [if_pos ⟨hvl, by omega, hvl2⟩] at HNL
                  have HA2 : Hid (a + 1 = nSets ls v (k + 1)) := Lib.hid (by rw [HNS.out, HA.out])
                  have HB2 : Hid (b + 1 = nLinks ls ts v (k + 1)) := Lib.hid (by rw [HNL.out, HB.out])
                  clear HNS HNL HA HB hvl hvl2 hAr hAr2
                  go_wp2_with (go_at_call 26; first | ((with_reducible refine HH.out.mono ?_); rintro e w' ⟨rfl, rfl⟩) | ((with_reducible refine HH2.out.mono ?_); rintro e w' ⟨rfl, rfl⟩))
                  go_roundw
                  case rel => exact ⟨k + 1, a + 1, b + 1, by go_num, by go_num, by go_num, by omega, by omega, by omega, HA2, HB2, hbr⟩
                  case measure => simp [intOf]; omega
                · have HH2 := Lib.hid (has_list A2 cl2 l2 (v : Int) false wr hAr2 (by omega) (by simp [hvl2]))
                  rw [if_neg (fun h => hvl2 h.2.2)] at HNL
                  have HA2 : Hid (a + 1 = nSets ls v (k + 1)) := Lib.hid (by rw [HNS.out, HA.out])
                  have HB2 : Hid (b = nLinks ls ts v (k + 1)) := Lib.hid (by rw [HNL.out, HB.out]; rfl)
                  clear HNS HNL HA HB hvl hvl2 hAr hAr2
                  go_wp2_with (go_at_call 26; first | ((with_reducible refine HH.out.mono ?_); rintro e w' ⟨rfl, rfl⟩) | ((with_reducible refine HH2.out.mono ?_); rintro e w' ⟨rfl, rfl⟩))
                  go_roundw
                  case rel => exact ⟨k + 1, a + 1, b, by go_num, by go_num, rfl, by omega, by omega, by omega, HA2, HB2, hbr⟩
                  case measure => simp [intOf]; omega
              · have d4 : decide (0 ≤ x) = false := by simpa using hx0
                rw [if_neg (fun h => hx0 h.2.1)] at HNL
                have HA2 : Hid (a + 1 = nSets ls v (k + 1)) := Lib.hid (by rw [HNS.out, HA.out])
                have HB2 : Hid (b = nLinks ls ts v (k + 1)) := Lib.hid (by rw [HNL.out, HB.out]; rfl)
                clear HNS HNL HA HB hvl hAr
                go_wp2_with (go_at_call 26; ((with_reducible refine HH.out.mono ?_); rintro e w' ⟨rfl, rfl⟩))
                go_roundw
                case rel => exact ⟨k + 1, a + 1, b, by go_num, by go_num, rfl, by omega, by omega, by omega, HA2, HB2, hbr⟩
                case measure => simp [intOf]; omega
            · have HH := Lib.hid (has_list A cl l (v : Int) false wr hAr (by omega) (by simp [hvl]))
              rw [if_neg hvl] at HNS
              rw [if_neg (fun h => hvl h.1)] at HNL
              have HA2 : Hid (a = nSets ls v (k + 1)) := Lib.hid (by rw [HNS.out, HA.out]; rfl)
              have HB2 : Hid (b = nLinks ls ts v (k + 1)) := Lib.hid (by rw [HNL.out, HB.out]; rfl)
              clear HNS HNL HA HB hvl hAr
              go_wp2_with (go_at_call 26; ((with_reducible refine HH.out.mono ?_); rintro e w' ⟨rfl, rfl⟩))
              go_roundw
              case rel => exact ⟨k + 1, a, b, by go_num, rfl, rfl, by omega, by omega, by omega, HA2, HB2, hbr⟩
              case measure => simp [intOf]; omega
          · obtain rfl : k = ls.length := by omega
            have hkb : decide ((ls.length : Int) < (ls.length : Int)) = false := by simp
            have hab : a = b + 1 := by rw [HA.out, HB.out]; exact HRUN.out
            have z1 : ((a : Int) == 0) = false := beq_eq_false_iff_ne.2 (by omega)
            have z2 : ((b : Int) != (a : Int) - 1) = false := by
              rw [bne_eq_false_iff_eq]; omega
            have HAB := Lib.hid hab
            clear hab HA HB HRUN
            go_wp2
            go_roundw
            case rel => exact ⟨v + 1, by go_num, by omega, hbr⟩
            case measure => simp [intOf]; omega
      · obtain rfl : v = m := by omega
        have hvb : decide ((v : Int) < (v : Int)) = false := by simp
        have hbw5 : Below w.heap.size w wo := below_all hbw4 hbr
        go_wp2_with (go_at_call 12; refine (awake_any _ (hT.below hbw5 hT.1)).mono ?_; rintro e w5 ⟨rfl, hb5⟩)
        go_ret
        exact ⟨rfl, below_all hbw5 hb5⟩
  · have HMD := Lib.hid (made_long n E c es w (by omega))
    have hb : decide ((40 : Int) < (es.length : Int)) = true := by simp; omega
    clear hE
    go_enter Tryd.func6, Tryd.ntmps6
    go_wp2_with (first
      | (go_at_call 16; refine HMD.out.mono ?_; rintro e w1 ⟨rfl, hb1⟩)
      | (go_at_call 12; refine (awake_any _ (hT.below (hb1.alloc hb1.size _) hT.1)).mono ?_; rintro e w4 ⟨rfl, hb4⟩))
    go_ret
    exact ⟨rfl, below_all (hb1.alloc hb1.size _) hb4⟩
end Go.Proofs.Tg
