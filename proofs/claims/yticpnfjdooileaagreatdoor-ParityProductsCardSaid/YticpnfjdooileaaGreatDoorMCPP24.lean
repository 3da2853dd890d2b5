/- Parts of the proof: LP1. -/
import Derived.StillTailTactics
import Derived.Deep.Cut
import Derived.Deep.RegionHeld3
import Derived.Test.YticpnfjdooileaaGreatDoorMCPP7
import Derived.Test.YticpnfjdooileaaGreatDoorMCPP22
import Derived.Test.YticpnfjdooileaaGreatDoorMCPP23
section
/- The statement ParityProducts, walked. -/
namespace Go.Proofs.Tg
open Go.RowKit Go.Gr Go.Ev Go.Mo Go.Qn
set_option maxHeartbeats 4000000
set_option maxRecDepth 100000
theorem toI_len (l : List Nat) : (toI l).length = l.length := by simp [toI]
theorem toI_at (l : List Nat) {k : Nat} (h : k < l.length) : (toI l)[k]'(by rw [toI_len]; exact h) = (l[k] : Int) := by simp [toI]
theorem iarr_some {l : List Int} {k : Nat} {x : Int} (h : l[k]? = some x) : (iarr l)[k]? = some (.int .i64 x) := by simp [iarr, h, vi]
theorem law_products (L : Option Addr) (c : Nat) (ps : List PVal) (B0 : Option Addr) (cb : Nat) (b : List (List Int)) (w : World) (hL : PolysAt w L ps) (hB : Lists w B0 b) (hT : Tab w) :
    Calls Tryz.prog 4 #[.slice L ps.length c, .slice B0 b.length cb] w fun e w' => e = .returned (.bool true) ∧ Below w.heap.size w w' := by
  by_cases hs : ps.length ≤ 3 ∧ ∀ p ∈ ps, p.few 6 8
  · have hlen : ps.length ≤ 3 := hs.1
    have HF8 : Hid (∀ p ∈ ps, p.few 8 8) := Lib.hid (fun p hp => ⟨by have := (hs.2 p hp).1; omega, (hs.2 p hp).2⟩)
    have HFS : Hid ((rowsOf ps).length ≤ 100000) := Lib.hid (by have := rows_few ps HF8.out; omega)
    have HSM : Hid (∀ p ∈ ps, p.small) := Lib.hid (fun p hp => ⟨by have := (hs.2 p hp).1; omega, fun t ht => by have := (hs.2 p hp).2 t ht; omega⟩)
    have HTL : Hid (∀ p ∈ ps, p.tv.length ≤ 100000) := Lib.hid (fun p hp => by have := (hs.2 p hp).1; omega)
    have HP := Lib.hid (fun W (h : PolysAt W L ps) => spolys_any L c 3 6 8 ps true W h (by simp [hs.1]; exact hs.2) (by omega) (by omega) (by omega))
    by_cases hbs : b.length ≤ 8 ∧ ∀ l ∈ b, l.length ≤ 8
    · have hbl : b.length ≤ 8 := hbs.1
      have HB8 : Hid (∀ l ∈ b, l.length ≤ 8) := Lib.hid hbs.2
      have HBS := Lib.hid (fun W (h : Lists W B0 b) => small_any B0 cb 8 8 b true W h (by simp [hbs.1]; exact hbs.2) (by omega))
      have HRA := Lib.hid (fun W (h : PolysAt W L ps) => rsigns_any L c ps W (by omega) HFS.out HTL.out (readall_any L c ps W h (by omega) HF8.out))
      have hsg := sg_both ps
      clear hs hbs
      rcases hsg with ⟨cc, hc0, H1, H2⟩ | ⟨H1, H2⟩
      · have HM1 := Lib.hid H1
        have HM2 := Lib.hid H2
        clear H1 H2
        have hcb : (cc != 0) = true := by simp [hc0]
        have hcb' : (cc == 0) = false := by simp [hc0]
        clear hc0
        go_enter Tryz.func4, Tryz.ntmps4
        go_wp2_with (fail)
        refine (HP.out w hL).mono ?_
        rintro e w0 ⟨rfl, hb0⟩
        go_wp2_with (fail)
        refine (HBS.out w0 (hB.keep hb0)).mono ?_
        rintro e w0' ⟨rfl, rfl⟩
        go_wp2_with (fail)
        refine (signs_any L c ps w0 (hL.keep hb0) (by omega) HSM.out (hT.below hb0 hT.1)).mono ?_
        intro e w1 hm
        obtain ⟨rfl, hb1⟩ := HM1.out _ _ _ hm
        clear hm
        have hb1 := below_all hb0 hb1
        clear hb0
        go_wp2_with (fail)
        refine (HRA.out w1 (hL.keep hb1)).mono ?_
        intro e w2 hm
        obtain ⟨rfl, hb2⟩ := HM2.out _ _ _ hm
        clear hm
        have hb2 := below_all hb1 hb2
        clear hb1
        go_wp2_with (fail)
        refine (awake_any w2 (hT.below hb2 hT.1)).mono ?_
        rintro e w4 ⟨rfl, hb4⟩
        go_wp2_with (fail)
        go_ret
        exact ⟨rfl, below_all hb2 hb4⟩
      · have HM1 := Lib.hid H1
        have HM2 := Lib.hid H2
        clear H1 H2
        go_enter Tryz.func4, Tryz.ntmps4
        go_wp2_with (fail)
        refine (HP.out w hL).mono ?_
        rintro e w0 ⟨rfl, hb0⟩
        go_wp2_with (fail)
        refine (HBS.out w0 (hB.keep hb0)).mono ?_
        rintro e w0' ⟨rfl, rfl⟩
        go_wp2_with (fail)
        refine (signs_any L c ps w0 (hL.keep hb0) (by omega) HSM.out (hT.below hb0 hT.1)).mono ?_
        intro e w1 hm
        obtain ⟨hb1, n, us, r, A, ca, hok, rfl, hLS⟩ := HM1.out _ _ _ hm
        clear hm
        have HROW : Hid (∀ p ∈ ps, ∀ t ∈ p.tv, chr ((us.take r).map (unp · n)) t.exps = List.replicate ((us.take r).map (unp · n)).length 0) := Lib.hid (fun p hp t ht => by
          have hrow : t.exps ∈ rowsOf ps := List.mem_flatMap.2 ⟨p, hp, List.mem_map_of_mem ht⟩
          obtain ⟨h1, h2⟩ := ok_term (hok.ok p hp) ht
          rw [hok.vars p hp] at h1
          exact chr_row (by have := hok.n6; omega) hok.rows hrow (by exact_mod_cast h1) (fun x hx => (h2 x hx).1))
        have HS1 : Hid (∀ v ∈ (us.take r).map (unp · n), b01 v = true) := Lib.hid (fun v hv => by
          obtain ⟨x, _, rfl⟩ := List.mem_map.1 hv
          exact b01_iff.2 (unp_bit x n))
        have HS2 : Hid (∀ v ∈ (us.take r).map (unp · n), v.length = n) := Lib.hid (fun v hv => by
          obtain ⟨x, _, rfl⟩ := List.mem_map.1 hv
          exact unp_len x n)
        have hS3 : ((us.take r).map (unp · n)).length ≤ 64 := by rw [List.length_map, List.length_take]; have := hok.len; omega
        generalize (us.take r).map (unp · n) = S at *
        have hb1 := below_all hb0 hb1
        clear hb0
        go_wp2_with (fail)
        refine (HRA.out w1 (hL.keep hb1)).mono ?_
        intro e w2 hm
        obtain ⟨hb2, A', m', c', rfl⟩ := HM2.out _ _ _ hm
        clear hm
        have hLS2 := hLS.keep hb2
        have hbw2 := below_all hb1 hb2
        clear hb1 hb2 hLS HP HRA HM1 HM2 HFS HTL HBS
        have HOK := Lib.hid hok
        have hn6 := hok.n6
        have hp0 : 0 < ps.length := List.length_pos_iff.2 hok.ne
        clear hok
        obtain ⟨ad, rfl, d0, _, _⟩ := PolysAt.at (hL.keep hbw2) hp0
        have hv0 : ps[0].vars = n := HOK.out.vars _ (List.getElem_mem _)
        rw [hv0, Nat.zero_mul] at d0
        have d00 : w2.cell? ad = some (.int .i64 n) := by simpa [Addr.add] using d0
        clear d0 hv0
        have qp : (0 : Int) < (ps.length : Int) := by omega
        have hL2 := hL.keep hbw2
        have hB2 := hB.keep hbw2
        have HTB : Hid (∀ V, Below w2.heap.size w2 V → Tab V) := Lib.hid (fun V h => hT.below (below_all hbw2 h) hT.1)
        have HB2 := Lib.hid hB2
        clear hB hL hB2
        go_wp2
        go_loopw [9] (fun s9 wr => ∃ j : Nat, s9 = .int .i64 j ∧ j ≤ b.length ∧ Hid (∀ x, x < j → vldM (b.getD x []) = true ∧ (b.getD x []).length = n) ∧ Below w2.heap.size w2 wr) (fun s9 _ => b.length - (intOf s9).toNat)
        case atStart => exact ⟨0, rfl, Nat.zero_le _, Lib.hid (fun x h => absurd h (by omega)), Below.refl _ _⟩
        case round =>
          obtain ⟨wo, rfl⟩ : ∃ wo : World, wo = wr := ⟨_, rfl⟩
          obtain ⟨j, rfl, hj, HVL, hbo⟩ := hrel
          by_cases hjl : j < b.length
          · obtain ⟨bd, E, ce, rfl, hcell, hI⟩ := Lists.at (HB2.out.keep hbo) hjl
            have HGD : Hid (b.getD j [] = b[j]) := Lib.hid (by simp [hjl])
            have hl8 := HB8.out b[j] (List.getElem_mem _)
            generalize b[j] = e0 at *
            have d0 := keep_cell hbo d00
            have q0 : (0 : Int) ≤ (j : Int) := by omega
            have q1 : (j : Int) < (b.length : Int) := by omega
            have q3 : ((j : Int)).toNat = j := by omega
            have HV := Lib.hid (fun V (h : Dr wo V) => valid_any E ce e0 V (hI.keep h.below) (by omega))
            by_cases hv : vldM e0 = true ∧ e0.length = n
            · obtain ⟨hv1, hv2⟩ := hv
              have HVL2 : Hid (∀ x, x < j + 1 → vldM (b.getD x []) = true ∧ (b.getD x []).length = n) := Lib.hid (fun x hx => by
                by_cases hxj : x < j
                · exact HVL.out x hxj
                · obtain rfl : x = j := by omega
                  rw [HGD.out]; exact ⟨hv1, hv2⟩)
              rw [hv1] at HV
              have hne : ((e0.length : Int) != (n : Int)) = false := by simp [hv2]
              have hne' : (e0.length != n) = false := by simp [hv2]
              clear hv1 hv2 HVL HGD hI
              go_wp2
              go_quiet ((go_at_call 14; exact quiet_sm (HV.out _ ⟨_, rfl⟩)))
              go_wp2
              go_roundw
              case rel => exact ⟨j + 1, by go_num, by omega, HVL2, below_drewN hbo _⟩
              case measure => simp [intOf]; omega
            · by_cases hv1 : vldM e0 = true
              · have hv2 : ¬ e0.length = n := fun h => hv ⟨hv1, h⟩
                rw [hv1] at HV
                have hne : ((e0.length : Int) != (n : Int)) = true := by simp; omega
                have hne' : (e0.length != n) = true := by simp [hv2]
                clear hv hv1 hv2 HVL HGD hI
                go_wp2
                go_quiet ((go_at_call 14; exact quiet_sm (HV.out _ ⟨_, rfl⟩)))
                go_wp2_with (fail)
                refine (awake_any _ (HTB.out _ (below_drewN hbo _))).mono ?_
                rintro e w4 ⟨rfl, hb4⟩
                go_wp2_with (fail)
                go_ret
                exact ⟨rfl, below_all hbw2 (below_all (below_drewN hbo _) hb4)⟩
              · have hv1 : vldM e0 = false := by simpa using hv1
                rw [hv1] at HV
                clear hv hv1 HVL HGD hI
                go_wp2
                go_quiet ((go_at_call 14; exact quiet_sm (HV.out _ ⟨_, rfl⟩)))
                go_wp2_with (fail)
                refine (awake_any _ (HTB.out _ (below_drewN hbo _))).mono ?_
                rintro e w4 ⟨rfl, hb4⟩
                go_wp2_with (fail)
                go_ret
                exact ⟨rfl, below_all hbw2 (below_all (below_drewN hbo _) hb4)⟩
          · obtain rfl : j = b.length := by omega
            have dd : decide (b.length < b.length) = false := by simp
            have hvb : ∀ m ∈ b, vldM m = true ∧ m.length = n := fun m hm => by
              obtain ⟨x, hx, rfl⟩ := List.getElem_of_mem hm
              have := HVL.out x hx
              rwa [List.getD_eq_getElem?_getD, List.getElem?_eq_getElem hx, Option.getD_some] at this
            have hck : chk S b = 0 := chk_ok (fun m hm => (hvb m hm).1) HS1.out (fun v hv m hm => by rw [HS2.out v hv, (hvb m hm).2])
            have HVB := Lib.hid hvb
            have HCHR : Hid (∀ V M cm (m : List Int), Below w2.heap.size w2 V → Ints V M m → vldM m = true → m.length = n → Calls Tryz.prog 17 #[.slice A S.length ca, .slice M n cm] V fun e w' => ∃ O co, e = .returned (.tuple #[.slice O S.length co, .int .i64 0]) ∧ Ints w' O (chr S m) ∧ Below V.heap.size V w') := Lib.hid (fun V M cm m h hM h1 h2 => by
              have hz : chk S [m] = 0 := chk_ok (by simpa using h1) HS1.out (fun v hv m' hm' => by rw [HS2.out v hv, List.mem_singleton.1 hm', h2])
              have := Char_any A M ca cm S m V (hLS2.keep h) hM (by omega) (fun v hv => by rw [HS2.out v hv]; omega) (by omega)
              rw [h2] at this
              refine this.mono ?_
              rintro e w' ⟨O, co, rfl, hO, hb⟩
              rw [if_pos hz] at hO
              exact ⟨O, co, by rw [if_pos hz, hz, chr_len], hO, hb⟩)
            have HCLS : Hid (∀ V, Below w2.heap.size w2 V → Calls Tryz.prog 15 #[.slice A S.length ca, .slice B0 b.length cb] V (RetCls ((clsSt (b.map (chr S)) b.length).2.map toI) 0 V)) := Lib.hid (fun V h => by
              have := classes_any A B0 ca cb S b V (hLS2.keep h) (HB2.out.keep h) (by omega) (by omega) (fun v hv => by rw [HS2.out v hv]; omega) (fun v hv => by have := HB8.out v hv; omega)
              have e1 : clsL S b = (clsSt (b.map (chr S)) b.length).2.map toI := if_pos ⟨hck, by omega⟩
              have e2 : clsE S b = 0 := by unfold clsE; rw [if_pos hck, if_pos (by omega)]
              rwa [e1, e2] at this)
            have hkl : (b.map (chr S)).length = b.length := List.length_map ..
            have hC8 : (clsSt (b.map (chr S)) b.length).2.length ≤ 8 := by have := clsSt_len (b.map (chr S)) b.length; omega
            have HX1 : Hid (∀ x, x < b.length → cix (b.map (chr S)) x < (clsSt (b.map (chr S)) b.length).2.length) := Lib.hid (fun x hx => by
              have := cix_lt (ks := b.map (chr S)) (x := x) (by rw [hkl]; exact hx)
              rwa [hkl] at this)
            have HX2 : Hid (∀ j, j < (clsSt (b.map (chr S)) b.length).2.length → ∀ x, x ∈ (clsSt (b.map (chr S)) b.length).2.getD j [] ↔ x < b.length ∧ cix (b.map (chr S)) x = j) := Lib.hid (fun j hj x => by
              have := cix_mem (ks := b.map (chr S)) (x := x) (j := j) (by rw [hkl]; exact hj)
              rwa [hkl] at this)
            have HX3 : Hid (∀ j, ((clsSt (b.map (chr S)) b.length).2.getD j []).Nodup ∧ ((clsSt (b.map (chr S)) b.length).2.getD j []).length ≤ 8) := Lib.hid (fun j => by
              have h1 := cix_nodup (b.map (chr S)) j
              have h2 := clsSt_each (b.map (chr S)) b.length j
              rw [hkl] at h1
              exact ⟨h1, by omega⟩)
            have HX4 : Hid (∀ x y (hx : x < b.length) (hy : y < b.length), cix (b.map (chr S)) x = cix (b.map (chr S)) y ↔ chr S b[x] = chr S b[y]) := Lib.hid (fun x y hx hy => by
              have := cix_eq (ks := b.map (chr S)) (x := x) (y := y) (by rw [hkl]; exact hx) (by rw [hkl]; exact hy)
              simpa [hx, hy] using this)
            generalize (clsSt (b.map (chr S)) b.length).2 = C at *
            generalize cix (b.map (chr S)) = ix at *
            clear hvb hck HVL HB8 hkl
            go_wp2_with (fail)
            refine (HCLS.out wo hbo).mono ?_
            rintro e w3 ⟨CA, cc, rfl, hLC, hb3⟩
            rw [List.length_map]
            have hbw3 := below_all hbo hb3
            have hmk := fun W => make_ints b.length b.length (Nat.le_refl _) (by omega) W
            have HTB3 : Hid (∀ V, Below w3.heap.size w3 V → Tab V) := Lib.hid (fun V h => HTB.out V (below_all hbw3 h))
            clear HCLS hbo hb3 HTB d00 qp
            go_upto_region 16 with (fail)
            obtain ⟨W4, hW4⟩ : ∃ W4, w3.alloc (.cells (madeCells #[.int .i64 0] b.length) 3) = W4 := ⟨_, rfl⟩
            have G12 : Blk W4 w3.heap.size 3 (iarr (mkd ix (C.getD 0 []) b.length 0 0)) := by
              rw [← hW4, mkd_zero, ← iarr_made]
              exact Blk.new _ _ _
            have hb4 : Below w3.heap.size w3 W4 := by rw [← hW4]; exact (Below.refl _ _).alloc (Nat.le_refl _) _
            rw [hW4]
            clear hW4 hmk
            go_wp2
            go_loopw [13] (fun s13 wr => ∃ i : Nat, s13 = .int .i64 i ∧ i ≤ C.length ∧ Blk wr w3.heap.size 3 (iarr (mkd ix (C.getD i []) b.length i 0)) ∧ Below w3.heap.size w3 wr) (fun s13 _ => C.length - (intOf s13).toNat)
            case atStart => exact ⟨0, rfl, Nat.zero_le _, G12, hb4⟩
            case round =>
              clear G12 hb4
              obtain ⟨wp, rfl⟩ : ∃ wp : World, wp = wr := ⟨_, rfl⟩
              obtain ⟨i, rfl, hi, G12, hbp⟩ := hrel
              by_cases hil : i < C.length
              · obtain ⟨cd, E, ce, rfl, hcell3, hI3⟩ := Lists.at hLC (k := i) (by rw [List.length_map]; exact hil)
                simp only [List.getElem_map] at hcell3 hI3
                have hD : C.getD i [] = C[i] := by simp [hil]
                have HMEM := HX2.out i hil
                have HND := HX3.out i
                rw [hD] at G12 HMEM HND
                rw [toI_len] at hcell3
                generalize C[i] = D at *
                have HMEM := Lib.hid HMEM
                have hD8 := HND.2
                have HND := Lib.hid HND.1
                have q0 : (0 : Int) ≤ (i : Int) := by omega
                have q1 : (i : Int) < (C.length : Int) := by omega
                have q3 : ((i : Int)).toNat = i := by omega
                have wi1 : wrap64 ((i : Int) + 1) = (i : Int) + 1 := by unfold wrap64; omega
                have wi2 : IntKind.i64.wrap ((i : Int) + 1) = (i : Int) + 1 := IntWalk.i64_in _ (by omega)
                clear hD
                go_wp2
                go_loopw [14] (fun s14 wx => ∃ k : Nat, s14 = .int .i64 k ∧ k ≤ D.length ∧ Blk wx w3.heap.size 3 (iarr (mkd ix D b.length i k)) ∧ Below w3.heap.size w3 wx) (fun s14 _ => D.length - (intOf s14).toNat)
                case atStart => exact ⟨0, rfl, Nat.zero_le _, G12, hbp⟩
                case round =>
                  clear G12 hbp
                  obtain ⟨wi, rfl⟩ : ∃ wi : World, wi = wr := ⟨_, rfl⟩
                  obtain ⟨k, rfl, hk, G12, hbx⟩ := hrel
                  have hc := keep_cell hbx hcell3
                  by_cases hkl : k < D.length
                  · obtain ⟨ed, rfl, hce⟩ := Ints.at (hI3.keep hbx) (k := k) (by rw [toI_len]; exact hkl)
                    rw [toI_at D hkl] at hce
                    have hx := (HMEM.out D[k]).1 (List.getElem_mem _)
                    have h0 := mkd_at ix D hx.1 hx.2 HND.out hkl rfl
                    have HSET : Hid ((mkd ix D b.length i k).set D[k] ((i : Int) + 1) = mkd ix D b.length i (k + 1)) := Lib.hid (mkd_set ix D hx.1 hx.2 hkl rfl)
                    have c0 := G12.cell D[k]
                    have f0 := G12.frozen D[k]
                    rw [iarr_at _ (by rw [mkd_len]; exact hx.1), h0] at c0
                    have hxb := hx.1
                    have HG := Lib.hid G12
                    clear h0 hx G12
                    generalize D[k] = x at *
                    have p0 : (0 : Int) ≤ (k : Int) := by omega
                    have p1 : (k : Int) < (D.length : Int) := by omega
                    have p3 : ((k : Int)).toNat = k := by omega
                    have r0 : (0 : Int) ≤ (x : Int) := by omega
                    have r1 : (x : Int) < (b.length : Int) := by omega
                    have r3 : ((x : Int)).toNat = x := by omega
                    have b1 : decide ((x : Int) < 0) = false := decide_eq_false (by omega)
                    have b2 : decide ((b.length : Int) ≤ (x : Int)) = false := decide_eq_false (by omega)
                    have b2' : decide (b.length ≤ x) = false := decide_eq_false (by omega)
                    go_wp2
                    go_roundw
                    case rel =>
                      refine ⟨k + 1, by go_num, by omega, ?_, below_far hbx (Nat.le_refl _) _ _⟩
                      have := HG.out.set x (.int .i64 ((i : Int) + 1))
                      rwa [iarr_set, HSET.out] at this
                    case measure => simp [intOf]; omega
                  · obtain rfl : k = D.length := by omega
                    have dk : decide (D.length < D.length) = false := by simp
                    go_wp2
                    go_roundw
                    case rel =>
                      refine ⟨i + 1, by go_num, by omega, ?_, hbx⟩
                      rw [← mkd_next ix D (C.getD (i + 1) []) (fun x h1 h2 => (HMEM.out x).2 ⟨h1, h2⟩)]
                      exact G12
                    case measure => simp [intOf]; omega
              · obtain rfl : i = C.length := by omega
                have dd2 : decide (C.length < C.length) = false := by simp
                have HCL : Hid (∀ x, x < b.length → (mkd ix (C.getD C.length []) b.length C.length 0)[x]? = some ((ix x : Int) + 1)) := Lib.hid (fun x h => by
                  rw [List.getElem?_eq_getElem (by rw [mkd_len]; exact h), mkd_full ix _ h (HX1.out x h)])
                generalize mkd ix (C.getD C.length []) b.length C.length 0 = CL at *
                have hB3 := HB2.out.keep hbw3
                have HB3 := Lib.hid hB3
                clear HX2 HX3 HX1 HB2 hB3 hLC
                go_wp2
                go_loopw [15] (fun s15 wr => ∃ i : Nat, s15 = .int .i64 i ∧ i ≤ b.length ∧ Blk wr w3.heap.size 3 (iarr CL) ∧ Below w3.heap.size w3 wr) (fun s15 _ => b.length - (intOf s15).toNat)
                case atStart => exact ⟨0, rfl, Nat.zero_le _, G12, hbp⟩
                case round =>
                  clear G12 hbp
                  obtain ⟨wi, rfl⟩ : ∃ wi : World, wi = wr := ⟨_, rfl⟩
                  obtain ⟨i, rfl, hi, G12, hbi⟩ := hrel
                  by_cases hil : i < b.length
                  · have hCi := HCL.out i hil
                    have ci := (G12.cell i).trans (iarr_some hCi)
                    have q0 : (0 : Int) ≤ (i : Int) := by omega
                    have q1 : (i : Int) < (b.length : Int) := by omega
                    have q3 : ((i : Int)).toNat = i := by omega
                    obtain ⟨xi, hxi⟩ : ∃ xi, ix i = xi := ⟨_, rfl⟩
                    rw [hxi] at ci hCi
                    have HXI := Lib.hid hxi
                    have z0 : ((xi : Int) + 1 == 0) = false := by simp; omega
                    have z0' : ((xi : Int) + 1 != 0) = true := by simp; omega
                    clear hxi
                    go_wp2
                    go_loopw [16] (fun s16 wr => ∃ k : Nat, s16 = .int .i64 k ∧ k ≤ i ∧ Blk wr w3.heap.size 3 (iarr CL) ∧ Below w3.heap.size w3 wr) (fun s16 _ => i - (intOf s16).toNat)
                    case atStart => exact ⟨0, rfl, Nat.zero_le _, G12, hbi⟩
                    case round =>
                      clear G12 hbi ci
                      obtain ⟨wj, rfl⟩ : ∃ wj : World, wj = wr := ⟨_, rfl⟩
                      obtain ⟨k, rfl, hk, G12, hbj⟩ := hrel
                      by_cases hki : k < i
                      · have hkb : k < b.length := by omega
                        obtain ⟨bd, E1, c1, hbe, hcell1, hI1⟩ := Lists.at HB3.out hil
                        obtain ⟨bd', E2, c2, hbe2, hcell2, hI2⟩ := Lists.at HB3.out hkb
                        subst hbe
                        obtain rfl : bd = bd' := by simpa using hbe2
                        obtain ⟨hv1, hl1⟩ := HVB.out b[i] (List.getElem_mem _)
                        obtain ⟨hv2, hl2⟩ := HVB.out b[k] (List.getElem_mem _)
                        have HEQ := Lib.hid (HX4.out i k hil hkb)
                        generalize b[i] = e1 at *
                        generalize b[k] = e2 at *
                        rw [hl1] at hcell1
                        rw [hl2] at hcell2
                        have hcell1 := keep_cell hbj hcell1
                        have hcell2 := keep_cell hbj hcell2
                        have p0 : (0 : Int) ≤ (k : Int) := by omega
                        have p1 : (k : Int) < (b.length : Int) := by omega
                        have p3 : ((k : Int)).toNat = k := by omega
                        obtain ⟨ok, hok⟩ : ∃ ok, vldM (addL e1 e2) = ok := ⟨_, rfl⟩
                        have HMUL : Hid (∀ V, Below wj.heap.size wj V → Calls Tryz.prog 16 #[.slice E1 n c1, .slice E2 n c2] V fun e w' => Below V.heap.size V w' ∧ ((ok = false ∧ e = .returned (.tuple #[.slice none 0 0, .bool false])) ∨ (ok = true ∧ ∃ O co, e = .returned (.tuple #[.slice O n co, .bool true]) ∧ Ints w' O (addL e1 e2)))) := Lib.hid (fun V h => by
                          have := mul_ok E1 E2 c1 c2 e1 e2 V (hI1.keep (below_all hbj h)) (hI2.keep (below_all hbj h)) (by rw [hl1, hl2]) hv1 hv2 ok hok
                          rwa [hl1, hl2] at this)
                        have hml : (addL e1 e2).length = n := by rw [addL_len (by rw [hl1, hl2]), hl1]
                        have HZI : Hid (chr S (addL e1 e2) = List.replicate S.length 0 ↔ ix i = ix k) := Lib.hid ((chr_zero_iff (by rw [hl1, hl2])).trans HEQ.out.symm)
                        have HNE : Hid (¬ ix i = ix k → ∀ p ∈ ps, ∀ t ∈ p.tv, t.exps ≠ addL e1 e2) := Lib.hid (fun h p hp t ht e => h (HZI.out.1 (by rw [← e]; exact HROW.out p hp t ht)))
                        have HOKM := Lib.hid hok
                        have hck := HCL.out k hkb
                        generalize addL e1 e2 = mm at *
                        clear hI1 hI2 HEQ hok hv1 hv2 hl1 hl2
                        go_upto_region 33 with (fail)
                        have hbe : Below wj.heap.size wj wj.drew := (Below.refl _ _).drew
                        cases ok with
                        | false =>
                          have HM2 : Hid (∀ V, Below wj.heap.size wj V → Calls Tryz.prog 16 #[.slice E1 n c1, .slice E2 n c2] V fun e w' => e = .returned (.tuple #[.slice none 0 0, .bool false]) ∧ Below wj.heap.size wj w') := Lib.hid (fun V h => (HMUL.out V h).mono (by
                            rintro e w5 ⟨hb5, ⟨_, rfl⟩ | ⟨h, _⟩⟩
                            · exact ⟨rfl, below_all ‹_› hb5⟩
                            · cases h))
                          go_region_held3 (fun w' => w'.cell? (bd.add i) = some (.slice E1 n c1) ∧ w'.cell? (bd.add k) = some (.slice E2 n c2))
                            (first | exact ⟨keep_cell hbe hcell1, keep_cell hbe hcell2⟩)
                            (first
                              | (go_at_call 16; with_reducible refine Calls.mono (HM2.out _ (by assumption)) ?_; rintro e w' ⟨rfl, hbe⟩))
                          all_goals
                            have G5 := G12.keep hbe G12.lt
                            go_wp2_with (fail)
                            go_roundw
                            case rel => exact ⟨k + 1, by go_num, by omega, G5, below_all hbj hbe⟩
                            case measure => simp [intOf]; omega
                        | true =>
                          have HM2 : Hid (∀ V, Below wj.heap.size wj V → Calls Tryz.prog 16 #[.slice E1 n c1, .slice E2 n c2] V fun e w' => ∃ O co, e = .returned (.tuple #[.slice O n co, .bool true]) ∧ Ints w' O mm ∧ Below wj.heap.size wj w') := Lib.hid (fun V h => (HMUL.out V h).mono (by
                            rintro e w5 ⟨hb5, ⟨h, _⟩ | ⟨_, O, co, rfl, hO⟩⟩
                            · cases h
                            · exact ⟨O, co, rfl, hO, below_all ‹_› hb5⟩))
                          have hO : Ints wj none [] := Sl.nil _ _ _
                          go_region_held3 (fun w' => w'.cell? (bd.add i) = some (.slice E1 n c1) ∧ w'.cell? (bd.add k) = some (.slice E2 n c2))
                            (first | exact ⟨keep_cell hbe hcell1, keep_cell hbe hcell2⟩)
                            (first
                              | (go_at_call 16; with_reducible refine Calls.mono (HM2.out _ (by assumption)) ?_; rintro e w5 ⟨O, co, rfl, hO, hbe⟩))
                          all_goals
                            have G5 := G12.keep hbe G12.lt
                            have hb5 := below_all hbj hbe
                            have HCH2 : Hid (∀ V, Below w5.heap.size w5 V → Calls Tryz.prog 17 #[.slice A S.length ca, .slice O n co] V fun e w' => ∃ Q cq, e = .returned (.tuple #[.slice Q S.length cq, .int .i64 0]) ∧ Ints w' Q (chr S mm) ∧ Below V.heap.size V w') := Lib.hid (fun V h => HCHR.out V O co mm (below_all hbw3 (below_all hb5 h)) (hO.keep h) HOKM.out hml)
                            have hcq := chr_len S mm
                            have hmk := fun W => make_ints S.length S.length (Nat.le_refl _) (by omega) W
                            have HINT : Hid (∀ (V : World) Q cq zb, Ints V Q (chr S mm) → decide (ix i = ix k) = zb → Calls Tryz.prog 18 #[.slice Q S.length cq, .slice (some ⟨V.heap.size, 0, none⟩) S.length S.length] (V.alloc (.cells (madeCells #[.int .i64 0] S.length) 3)) fun e w' => e = .returned (.bool zb) ∧ Below V.heap.size V w') := Lib.hid (fun V Q cq zb hQ hz => by
                              have hba : Below V.heap.size V (V.alloc (.cells (madeCells #[.int .i64 0] S.length) 3)) := (Below.refl _ _).alloc (Nat.le_refl _) _
                              have hBz : Blk (V.alloc (.cells (madeCells #[.int .i64 0] S.length) 3)) V.heap.size 3 (iarr (List.replicate S.length 0)) := by rw [← iarr_made]; exact Blk.new _ _ _
                              have := ints_any Q (some ⟨V.heap.size, 0, none⟩) (chr S mm) (List.replicate S.length 0) cq S.length _ (hQ.keep hba) (ints_of_blk hBz (by rw [List.length_replicate]; omega)) (by omega)
                              rw [hcq, List.length_replicate] at this
                              refine this.mono ?_
                              rintro e w' ⟨rfl, hd⟩
                              refine ⟨?_, below_all hba hd.below⟩
                              rw [← hz]
                              congr 2
                              exact decide_eq_decide.2 HZI.out)
                            have HL2 := Lib.hid (fun V (h : Below w3.heap.size w3 V) => hL2.keep (below_all hbw3 h))
                            clear HMUL HOKM HZI
                            by_cases hxe : ix i = ix k
                            · have HI2 := Lib.hid (fun (V : World) Q cq (h : Ints V Q (chr S mm)) => HINT.out V Q cq true h (decide_eq_true hxe))
                              have hk1 : CL[k]? = some ((xi : Int) + 1) := by rw [← HXI.out, hxe]; exact hck
                              have e1 : ((xi : Int) + 1 == (xi : Int) + 1) = true := by simp
                              have e2 : ((xi : Int) + 1 != (xi : Int) + 1) = false := by simp
                              clear HINT HNE hxe hck
                              go_wp2_with (fail)
                              refine (HCH2.out _ (Below.refl _ _)).mono ?_
                              rintro e w6 ⟨Q, cq, rfl, hQ, hb6⟩
                              have HI3 := Lib.hid (HI2.out w6 Q cq hQ)
                              clear HI2 HCH2 hQ
                              go_wp2_with (fail)
                              refine HI3.out.mono ?_
                              rintro e w7 ⟨rfl, hb7⟩
                              have hb7 := below_all hb6 hb7
                              have G7 := G5.keep (B := w5.heap.size) hb7 G5.lt
                              have ci := (G7.cell i).trans (iarr_some hCi)
                              have ck := (G7.cell k).trans (iarr_some hk1)
                              clear HI3 hmk hb6
                              go_wp2
                              go_quiet (fail)
                              go_wp2
                              go_loopw [22] (fun s22 wr => ∃ j : Nat, s22 = .int .i64 j ∧ j ≤ ps.length ∧ Blk wr w3.heap.size 3 (iarr CL) ∧ Below w5.heap.size w5 wr) (fun s22 _ => ps.length - (intOf s22).toNat)
                              case atStart => exact ⟨0, rfl, Nat.zero_le _, G7.drewN _, below_drewN hb7 _⟩
                              case round =>
                                clear G7 hb7 ci ck
                                obtain ⟨wq, rfl⟩ : ∃ wq : World, wq = wr := ⟨_, rfl⟩
                                obtain ⟨j, rfl, hj, G7, hb7⟩ := hrel
                                have ci := (G7.cell i).trans (iarr_some hCi)
                                have ck := (G7.cell k).trans (iarr_some hk1)
                                by_cases hjl : j < ps.length
                                · go_wp2
                                  go_quiet (fail)
                                  go_wp2
                                  go_roundw
                                  case rel => exact ⟨j + 1, by go_num, by omega, G7.drewN _, below_drewN hb7 _⟩
                                  case measure => simp [intOf]; omega
                                · obtain rfl : j = ps.length := by omega
                                  have dj : decide (ps.length < ps.length) = false := by simp
                                  go_wp2
                                  go_roundw
                                  case rel => exact ⟨k + 1, by go_num, by omega, G7, below_all hb5 hb7⟩
                                  case measure => simp [intOf]; omega
                            · have HI2 := Lib.hid (fun (V : World) Q cq (h : Ints V Q (chr S mm)) => HINT.out V Q cq false h (decide_eq_false hxe))
                              have HNO := Lib.hid (HNE.out hxe)
                              obtain ⟨xk, hxk⟩ : ∃ xk, ix k = xk := ⟨_, rfl⟩
                              rw [HXI.out, hxk] at hxe
                              rw [hxk] at hck
                              have hk1 := hck
                              have e1 : ((xi : Int) + 1 == (xk : Int) + 1) = false := by simp; omega
                              have e2 : ((xi : Int) + 1 != (xk : Int) + 1) = true := by simp; omega
                              have e3 : (xi == xk) = false := by simp [hxe]
                              have e4 : (xi != xk) = true := by simp [hxe]
                              clear hxk
                              clear HINT HNE hxe hck
                              go_wp2_with (fail)
                              refine (HCH2.out _ (Below.refl _ _)).mono ?_
                              rintro e w6 ⟨Q, cq, rfl, hQ, hb6⟩
                              have HI3 := Lib.hid (HI2.out w6 Q cq hQ)
                              clear HI2 HCH2 hQ
                              go_wp2_with (fail)
                              refine HI3.out.mono ?_
                              rintro e w7 ⟨rfl, hb7⟩
                              have hb7 := below_all hb6 hb7
                              have G7 := G5.keep (B := w5.heap.size) hb7 G5.lt
                              have ci := (G7.cell i).trans (iarr_some hCi)
                              have ck := (G7.cell k).trans (iarr_some hk1)
                              clear HI3 hmk hb6
                              go_wp2
                              go_quiet (fail)
                              go_wp2
                              go_loopw [22] (fun s22 wr => ∃ j : Nat, s22 = .int .i64 j ∧ j ≤ ps.length ∧ Blk wr w3.heap.size 3 (iarr CL) ∧ Below w5.heap.size w5 wr) (fun s22 _ => ps.length - (intOf s22).toNat)
                              case atStart => exact ⟨0, rfl, Nat.zero_le _, G7.drewN _, below_drewN hb7 _⟩
                              case round =>
                                clear G7 hb7 ci ck
                                obtain ⟨wq, rfl⟩ : ∃ wq : World, wq = wr := ⟨_, rfl⟩
                                obtain ⟨j, rfl, hj, G7, hb7⟩ := hrel
                                have ci := (G7.cell i).trans (iarr_some hCi)
                                have ck := (G7.cell k).trans (iarr_some hk1)
                                by_cases hjl : j < ps.length
                                · obtain ⟨ad', hade, hc0, hc1, hTp⟩ := PolysAt.at (HL2.out _ (below_all hb5 hb7)) hjl
                                  obtain rfl : ad = ad' := by simpa using hade
                                  have HPM : Hid (ps[j] ∈ ps) := Lib.hid (List.getElem_mem _)
                                  have hvars := HOK.out.vars _ HPM.out
                                  have hokp := HOK.out.ok _ HPM.out
                                  have hszp := HSM.out _ HPM.out
                                  have hnop := HNO.out _ HPM.out
                                  generalize ps[j] = p at *
                                  obtain ⟨pv, T, cT, tv⟩ := p
                                  simp only [PVal.ok] at *
                                  subst hvars
                                  have HCF : Hid (∀ V, Below wq.heap.size wq V → Calls Tryz.prog 19 #[.agg #[.int .i64 n, .slice T tv.length cT], .slice O n co] V fun e w' => e = .returned (.string ⟨#[48]⟩) ∧ Below V.heap.size V w') := Lib.hid (fun V h => by
                                    have := coef_none n T cT tv O co mm V (hTp.keep h) (hO.keep (below_all hb7 h)) hszp.1 hszp.2 hokp hnop (HTB3.out V (below_all hb5 (below_all hb7 h)))
                                    rwa [hml] at this)
                                  have s0 : ((⟨#[48]⟩ : ByteArray).toList != (⟨#[48]⟩ : ByteArray).toList) = false := by simp
                                  have m0 : (0 : Int) ≤ (j : Int) := by omega
                                  have m1 : (j : Int) < (ps.length : Int) := by omega
                                  have m3 : ((j : Int)).toNat = j := by omega
                                  clear hokp hszp hnop hTp HPM
                                  go_upto_region 42 with (fail)
                                  go_still_tail 15, (by kernel_rfl)
                                  try change wpList _ _ _ _ _ wq.drew
                                  go_wp2_with (fail)
                                  refine (HCF.out _ (Below.refl _ _).drew).mono ?_
                                  rintro e w8 ⟨rfl, hb8⟩
                                  have G8 := G7.keep (below_of_drew hb8) G7.lt
                                  have hb8 := below_all hb7 (below_of_drew hb8)
                                  go_wp2_with (fail)
                                  go_roundw
                                  case rel => exact ⟨j + 1, by go_num, by omega, G8, hb8⟩
                                  case measure => simp [intOf]; omega
                                · obtain rfl : j = ps.length := by omega
                                  have dj : decide (ps.length < ps.length) = false := by simp
                                  go_wp2
                                  go_roundw
                                  case rel => exact ⟨k + 1, by go_num, by omega, G7, below_all hb5 hb7⟩
                                  case measure => simp [intOf]; omega
                      · obtain rfl : k = i := by omega
                        have dk : decide (k < k) = false := by simp
                        go_wp2
                        go_roundw
                        case rel => exact ⟨k + 1, by go_num, by omega, G12, hbj⟩
                        case measure => simp [intOf]; omega
                  · obtain rfl : i = b.length := by omega
                    have dk : decide (b.length < b.length) = false := by simp
                    go_wp2_with (fail)
                    refine (awake_any _ (HTB3.out _ hbi)).mono ?_
                    rintro e w9 ⟨rfl, hb9⟩
                    go_wp2_with (fail)
                    go_ret
                    exact ⟨rfl, below_all hbw2 (below_all hbw3 (below_all hbi hb9))⟩
    · have HBS := Lib.hid (fun W (h : Lists W B0 b) => small_any B0 cb 8 8 b false W h (by simp only [Bool.false_eq_true, false_iff]; exact hbs) (by omega))
      clear hs hbs
      go_enter Tryz.func4, Tryz.ntmps4
      go_wp2_with (fail)
      refine (HP.out w hL).mono ?_
      rintro e w0 ⟨rfl, hb0⟩
      go_wp2_with (fail)
      refine (HBS.out w0 (hB.keep hb0)).mono ?_
      rintro e w0' ⟨rfl, rfl⟩
      go_wp2_with (fail)
      refine (awake_any w0 (hT.below hb0 hT.1)).mono ?_
      rintro e w4 ⟨rfl, hb4⟩
      go_wp2_with (fail)
      go_ret
      exact ⟨rfl, below_all hb0 hb4⟩
  · have HP := Lib.hid (spolys_any L c 3 6 8 ps false w hL (by simp only [Bool.false_eq_true, false_iff]; exact hs) (by omega) (by omega) (by omega))
    clear hs
    go_enter Tryz.func4, Tryz.ntmps4
    go_wp2_with (fail)
    refine HP.out.mono ?_
    rintro e w0 ⟨rfl, hb0⟩
    go_wp2_with (fail)
    refine (awake_any w0 (hT.below hb0 hT.1)).mono ?_
    rintro e w4 ⟨rfl, hb4⟩
    go_wp2_with (fail)
    go_ret
    exact ⟨rfl, below_all hb0 hb4⟩
end Go.Proofs.Tg
end
