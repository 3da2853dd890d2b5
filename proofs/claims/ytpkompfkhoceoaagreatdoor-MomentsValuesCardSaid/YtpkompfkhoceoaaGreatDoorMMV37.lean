/- Parts of the proof: XA3. -/
import Derived.Deep.AppendLies
import Derived.Deep.RegionHeld3
import Derived.Test.YtpkompfkhoceoaaGreatDoorMMV36
section
/- The reference's Write, walked (printed by wip/tools/mk_write.py). -/
namespace Go.Proofs.Tg
open Go.RowKit Go.Gr Go.Mo Go.Qn
set_option maxHeartbeats 8000000
set_option maxRecDepth 100000
theorem wrPl_succ {us : List ByteArray} {ts : List RT} {k : Nat} (h1 : k < ts.length) (h2 : k < us.length) : (wrPl us ts).take (k + 1) = (wrPl us ts).take k ++ [(us[k], ts[k].exps)] := by
  have hl : k < (wrPl us ts).length := by unfold wrPl; rw [List.length_zipWith]; omega
  rw [List.take_succ_eq_append_getElem hl]
  simp [wrPl]
theorem rwrite_any (v : Int) (O : Option Addr) (co : Nat) (ts : List RT) (us : List ByteArray) (w : World) (hO : Sl w O ts.length 5 (ts.flatMap RT.cells)) (hI : ∀ t ∈ ts, Ints w t.adr t.exps) (hul : us.length = ts.length)
    (hN : ∀ (j : Nat) (h1 : j < ts.length) (h2 : j < us.length), RNm w ts[j] us[j]) (hn : ts.length ≤ 4096) (he : ∀ t ∈ ts, t.exps.length ≤ 64) :
    Calls Tryz.prog 30 #[.agg #[.int .i64 v, .slice O ts.length co]] w fun e w' => Below w.heap.size w w' ∧ ∃ (A : Option Addr) (c : Nat) (tv : List TV), e = .returned (.agg #[.int .i64 v, .slice A tv.length c]) ∧ OwnTerms w.heap.size w' A c tv ∧ tv.map TV.pl = wrPl us ts := by
  have HO := Lib.hid hO
  have HIN := Lib.hid hI
  have HNM := Lib.hid hN
  have HE := Lib.hid he
  have HUL := Lib.hid hul
  clear hO hI hN he hul
  obtain ⟨i0, hi, iz0, iz1, iz2⟩ := info_parts term_info
  obtain ⟨W, hW⟩ : ∃ W, ((w.alloc (.cells #[.int .i64 v, .slice O ts.length co] 65)).alloc (.cells #[.int .i64 0, .slice none 0 0] 71)).alloc (.cells #[.int .i64 v, .slice none 0 0] 71) = W := ⟨_, rfl⟩
  have B1 : Blk W w.heap.size 65 #[.int .i64 v, .slice O ts.length co] := by rw [← hW]; exact ((Blk.new _ _ _).alloc _).alloc _
  have B2 : Blk W (w.heap.size + 1) 71 #[.int .i64 0, .slice none 0 0] := by
    rw [← hW]; have := (Blk.new (w.alloc (.cells #[.int .i64 v, .slice O ts.length co] 65)) 71 #[.int .i64 0, .slice none 0 0]).alloc (.cells #[.int .i64 v, .slice none 0 0] 71)
    simpa using this
  have B3 : Blk W (w.heap.size + 1 + 1) 71 #[.int .i64 v, .slice none 0 0] := by
    rw [← hW]; have := (Blk.new ((w.alloc (.cells #[.int .i64 v, .slice O ts.length co] 65)).alloc (.cells #[.int .i64 0, .slice none 0 0] 71)) 71 #[.int .i64 v, .slice none 0 0])
    simpa using this
  have hbW : Below w.heap.size w W := by rw [← hW]; exact (((Below.refl _ _).alloc (Nat.le_refl _) _).alloc (by simp) _).alloc (by simp; omega) _
  have HWW := Lib.hid hW
  clear hW
  obtain ⟨a0, a1, _, _⟩ := B1.two
  obtain ⟨d0, d1, d2, d3⟩ := B2.two
  go_enter Tryz.func30, Tryz.ntmps30
  go_upto_region 2 with (fail)
  rw [HWW.out]
  go_wp2
  go_loopw [4] (fun s4 wr => ∃ (k : Nat) (A : Option Addr) (c : Nat) (tv : List TV), s4 = .int .i64 k ∧ k ≤ ts.length ∧ Hid (WrSt w v O co us ts wr k A c tv)) (fun s4 _ => ts.length - (intOf s4).toNat)
  case atStart => exact ⟨0, none, 0, [], rfl, Nat.zero_le _, Lib.hid ⟨rfl, hbW, B1, B2, B3, World.ownsRow_nil _ _ _ _, fun _ h => by cases h⟩⟩
  case round =>
    clear a0 a1 d0 d1 d2 d3 B1 B2 B3 hbW
    obtain ⟨we, rfl⟩ : ∃ we : World, we = wr := ⟨_, rfl⟩
    obtain ⟨k, A, c, tv, rfl, hk, HST⟩ := hrel
    have hbr := HST.out.below
    have hz : w.heap.size + 3 ≤ we.heap.size := by have := HST.out.b3.lt; omega
    have htl : tv.length ≤ 4096 := by
      have h1 := congrArg List.length HST.out.pl
      rw [List.length_map, List.length_take] at h1
      omega
    obtain ⟨a0, a1, _, _⟩ := HST.out.b1.two
    by_cases hlt : k < ts.length
    · have hku : k < us.length := by rw [HUL.out]; exact hlt
      obtain ⟨od, rfl, hob, k0, k1, k2, k3, k4⟩ := RT5.at HO.out hlt
      have k0 := keep_cell hbr k0
      have k1 := keep_cell hbr k1
      have k2 := keep_cell hbr k2
      have k3 := keep_cell hbr k3
      have k4 := keep_cell hbr k4
      have HPL := Lib.hid (wrPl_succ hlt hku)
      have hIk := (HIN.out ts[k] (List.getElem_mem _)).keep hbr
      have hel := HE.out ts[k] (List.getElem_mem _)
      obtain ⟨b, n, m, N, cn, D, cd, h0, h2, h3, h4, h5, h6, h7, h8, h9, h10, h11⟩ := HNM.out k hlt hku
      have HTX : Hid (∀ V, Below we.heap.size we V → Calls Tryz.prog 22 #[.agg #[.bool b, .slice N (mg n).length cn, .bool false, .slice D (dl m).length cd]] V fun e w' => e = .returned (.string us[k]) ∧ Below V.heap.size V w') := Lib.hid (fun V h => by
        rw [← h11]
        exact text_any b false N D cn cd n m V (h9.keep (below_all hbr h)) (h10.keep (below_all hbr h)) h2 h3 h4)
      rw [h5] at k0
      rw [h6] at k1
      rw [h7] at k2
      rw [h8] at k3
      clear h0 h2 h3 h4 h5 h6 h7 h8 h9 h10 h11
      generalize (mg n).length = nn at *
      generalize (dl m).length = dn at *
      generalize us[k] = u at *
      generalize ts[k].exps = el at *
      generalize ts[k].adr = E at *
      generalize ts[k].cap = ce at *
      have q0 : (0 : Int) ≤ (k : Int) := by omega
      have q1 : (k : Int) < (ts.length : Int) := by omega
      have q3 : ((k : Int)).toNat = k := by omega
      have HIK := Lib.hid hIk
      clear hIk
      obtain ⟨b0, b1, b2, b3⟩ := HST.out.b3.two
      have hoa : some (od.add (k * 5)).block ≠ (Value.slice A tv.length c).ownBlock := fun e => by have := (HST.out.own.lt _ e.symm).1; rw [add_block] at this; omega
      have f3 : (od.add (k * 5)).block ≠ w.heap.size + 1 + 1 := by rw [add_block]; omega
      have FAR : Hid (∀ (V : World) (p : Addr) (u u' : Value), V.cell? p = some u → p.block ≠ w.heap.size + 1 + 1 → (V.setCell ⟨w.heap.size + 1 + 1, 1, none⟩ u').cell? p = some u) := Lib.hid (fun V p u u' h hne => (World.cell?_setCell_other _ _ _ _ (fun e => hne (by rw [← e]))).trans h)
      have f2 : w.heap.size ≠ w.heap.size + 1 + 1 := by omega
      go_upto_region 5 with (fail)
      have BZ : Below we.heap.size we we.drew := (Below.refl _ _).drew
      refine wp_region_held_drew (S := (fun w' => w'.cell? ⟨w.heap.size, 1, none⟩ = some (.slice (some od) ts.length co) ∧ w'.cell? (od.add (k * 5)) = some (.bool b) ∧ w'.cell? ⟨(od.add (k * 5)).block, (od.add (k * 5)).off + 1, none⟩ = some (.slice N nn cn) ∧ w'.cell? ⟨(od.add (k * 5)).block, (od.add (k * 5)).off + 2, none⟩ = some (.bool false) ∧ w'.cell? ⟨(od.add (k * 5)).block, (od.add (k * 5)).off + 3, none⟩ = some (.slice D dn cd) ∧ w'.cell? ⟨(od.add (k * 5)).block, (od.add (k * 5)).off + 4, none⟩ = some (.slice E el.length ce))) (by kernel_rfl) ⟨a1, k0, k1, k2, k3, k4⟩ (fun hHeld => ?_)
      generalize we.drew = Z at *
      refine wpAnyH_get 0 (some 15) (.pointer (some ⟨w.heap.size + 1 + 1, 1, none⟩)) rfl rfl (by kernel_rfl) (by kernel_rfl) (by kernel_rfl) (fun _ _ _ h => h) (by rfl) hHeld ?_ ?_
      · (intro w hSw; (try dsimp only at hSw); go_simp; all_goals (try with_reducible rfl))
      simp only [Act.put, List.setIfInBounds_toArray, List.set_cons_zero, List.set_cons_succ]
      refine wpAnyH_get 2 (some 17) (.pointer (some ⟨w.heap.size, 1, none⟩)) rfl rfl (by kernel_rfl) (by kernel_rfl) (by kernel_rfl) (fun _ _ _ h => h) (by rfl) hHeld ?_ ?_
      · (intro w hSw; (try dsimp only at hSw); go_simp; all_goals (try with_reducible rfl))
      simp only [Act.put, List.setIfInBounds_toArray, List.set_cons_zero, List.set_cons_succ]
      refine wpAnyH_get 3 (some 18) (.slice (some od) ts.length co) rfl rfl (by kernel_rfl) (by kernel_rfl) (by kernel_rfl) (fun _ _ _ h => h) (by rfl) hHeld ?_ ?_
      · (intro w hSw; (try dsimp only at hSw); go_simp; all_goals (try with_reducible rfl))
      simp only [Act.put, List.setIfInBounds_toArray, List.set_cons_zero, List.set_cons_succ]
      refine wpAnyH_get 4 (some 19) (.int .i64 k) rfl rfl (by kernel_rfl) (by kernel_rfl) (by kernel_rfl) (fun _ _ _ h => h) (by rfl) hHeld ?_ ?_
      · (intro w hSw; (try dsimp only at hSw); go_simp; all_goals (try with_reducible rfl))
      simp only [Act.put, List.setIfInBounds_toArray, List.set_cons_zero, List.set_cons_succ]
      refine wpAnyH_get 5 (some 20) (.pointer (some (od.add (k * 5)))) rfl rfl (by kernel_rfl) (by kernel_rfl) (by kernel_rfl) (fun _ _ _ h => h) (by rfl) hHeld ?_ ?_
      · (intro w hSw; (try dsimp only at hSw); go_simp; all_goals (try with_reducible rfl))
      simp only [Act.put, List.setIfInBounds_toArray, List.set_cons_zero, List.set_cons_succ]
      refine wpAnyH_get 6 (some 21) (.pointer (some (od.add (k * 5)))) rfl rfl (by kernel_rfl) (by kernel_rfl) (by kernel_rfl) (fun _ _ _ h => h) (by rfl) hHeld ?_ ?_
      · (intro w hSw; (try dsimp only at hSw); go_simp; all_goals (try with_reducible rfl))
      simp only [Act.put, List.setIfInBounds_toArray, List.set_cons_zero, List.set_cons_succ]
      refine wpAnyH_get 7 (some 22) (.agg #[.bool b, .slice N nn cn, .bool false, .slice D dn cd]) rfl rfl (by kernel_rfl) (by kernel_rfl) (by kernel_rfl) (fun _ _ _ h => h) (by rfl) hHeld ?_ ?_
      · (intro w hSw; (try dsimp only at hSw); go_simp; all_goals (try with_reducible rfl))
      simp only [Act.put, List.setIfInBounds_toArray, List.set_cons_zero, List.set_cons_succ]
      refine wpAnyH_get 10 (some 25) (.pointer (some ⟨w.heap.size, 1, none⟩)) rfl rfl (by kernel_rfl) (by kernel_rfl) (by kernel_rfl) (fun _ _ _ h => h) (by rfl) hHeld ?_ ?_
      · (intro w hSw; (try dsimp only at hSw); go_simp; all_goals (try with_reducible rfl))
      simp only [Act.put, List.setIfInBounds_toArray, List.set_cons_zero, List.set_cons_succ]
      refine wpAnyH_get 11 (some 26) (.slice (some od) ts.length co) rfl rfl (by kernel_rfl) (by kernel_rfl) (by kernel_rfl) (fun _ _ _ h => h) (by rfl) hHeld ?_ ?_
      · (intro w hSw; (try dsimp only at hSw); go_simp; all_goals (try with_reducible rfl))
      simp only [Act.put, List.setIfInBounds_toArray, List.set_cons_zero, List.set_cons_succ]
      refine wpAnyH_get 12 (some 27) (.int .i64 k) rfl rfl (by kernel_rfl) (by kernel_rfl) (by kernel_rfl) (fun _ _ _ h => h) (by rfl) hHeld ?_ ?_
      · (intro w hSw; (try dsimp only at hSw); go_simp; all_goals (try with_reducible rfl))
      simp only [Act.put, List.setIfInBounds_toArray, List.set_cons_zero, List.set_cons_succ]
      refine wpAnyH_get 13 (some 28) (.pointer (some (od.add (k * 5)))) rfl rfl (by kernel_rfl) (by kernel_rfl) (by kernel_rfl) (fun _ _ _ h => h) (by rfl) hHeld ?_ ?_
      · (intro w hSw; (try dsimp only at hSw); go_simp; all_goals (try with_reducible rfl))
      simp only [Act.put, List.setIfInBounds_toArray, List.set_cons_zero, List.set_cons_succ]
      refine wpAnyH_get 14 (some 29) (.pointer (some ⟨(od.add (k * 5)).block, (od.add (k * 5)).off + 4, none⟩)) rfl rfl (by kernel_rfl) (by kernel_rfl) (by kernel_rfl) (fun _ _ _ h => h) (by rfl) hHeld ?_ ?_
      · (intro w hSw; (try dsimp only at hSw); go_simp; all_goals (try with_reducible rfl))
      simp only [Act.put, List.setIfInBounds_toArray, List.set_cons_zero, List.set_cons_succ]
      refine wpAnyH_get 15 (some 30) (.slice E el.length ce) rfl rfl (by kernel_rfl) (by kernel_rfl) (by kernel_rfl) (fun _ _ _ h => h) (by rfl) hHeld ?_ ?_
      · (intro w hSw; (try dsimp only at hSw); go_simp; all_goals (try with_reducible rfl))
      simp only [Act.put, List.setIfInBounds_toArray, List.set_cons_zero, List.set_cons_succ]
      refine wpAnyH_ready (rs := [1, 8, 9]) (by kernel_rfl) (by simp) ?_
      refine AllReadyH.cons rfl (fun K hK => ?_) (AllReadyH.cons rfl (fun K hK => ?_) (AllReadyH.cons rfl (fun K hK => ?_) AllReadyH.nil))
      · have bz := keep_cell BZ b1
        go_simp
        refine hK.out _ _ ⟨keep_cell BZ a1, keep_cell BZ k0, keep_cell BZ k1, keep_cell BZ k2, keep_cell BZ k3, keep_cell BZ k4⟩ (fun hHeld => ?_)
        clear hK K bz
        (try simp only [Act.put, List.setIfInBounds_toArray, List.set_cons_zero, List.set_cons_succ])
        refine wpAnyH_ready (rs := [8, 9]) (by kernel_rfl) (by simp) ?_
        refine AllReadyH.cons rfl (fun K hK => ?_) (AllReadyH.cons rfl (fun K hK => ?_) AllReadyH.nil)
        · go_simp
          refine (HTX.out _ BZ).mono ?_
          rintro e Z2 ⟨rfl, hbz⟩
          (try go_simp)
          have BZ2 := below_all BZ hbz
          refine hK.out _ _ ⟨keep_cell BZ2 a1, keep_cell BZ2 k0, keep_cell BZ2 k1, keep_cell BZ2 k2, keep_cell BZ2 k3, keep_cell BZ2 k4⟩ (fun hHeld => ?_)
          clear hK K hbz
          (try simp only [Act.put, List.setIfInBounds_toArray, List.set_cons_zero, List.set_cons_succ])
          refine wpAnyH_ready (rs := [9]) (by kernel_rfl) (by simp) ?_
          refine AllReadyH.cons rfl (fun K hK => ?_) AllReadyH.nil
          go_simp
          have G9 := Blk.new Z2 3 #[]
          have BZ3 : Below we.heap.size we (Z2.alloc (.cells #[] 3)) := BZ2.alloc BZ2.size _
          have hg9 : we.heap.size ≤ Z2.heap.size := BZ2.size
          refine hK.out _ _ ⟨keep_cell BZ3 a1, keep_cell BZ3 k0, keep_cell BZ3 k1, keep_cell BZ3 k2, keep_cell BZ3 k3, keep_cell BZ3 k4⟩ (fun hHeld => ?_)
          clear hK K
          (try simp only [Act.put, List.setIfInBounds_toArray, List.set_cons_zero, List.set_cons_succ])
          generalize Z2.alloc (.cells #[] 3) = Z3 at *
          generalize Z2.heap.size = g9 at *
          refine wpAnyH_ready (rs := [16]) (by kernel_rfl) (by simp) ?_
          refine AllReadyH.cons rfl (fun K hK => ?_) AllReadyH.nil
          refine step_clone (by rfl) _ _ (by rfl) g9 w.heap.size (by simp [Act.eval]) G9 (by omega) E ce el (by simp [Act.eval]) (HIK.out.keep BZ3) (by omega) ?_
          intro A1 c1 Z4 hA1 hbz
          have BZ4 : Below we.heap.size we Z4 := BZ3.trans (hbz.mono hg9)
          refine hK.out _ _ ⟨keep_cell BZ4 a1, keep_cell BZ4 k0, keep_cell BZ4 k1, keep_cell BZ4 k2, keep_cell BZ4 k3, keep_cell BZ4 k4⟩ (fun hHeld => ?_)
          clear hK K hbz G9
          (try simp only [Act.put, List.setIfInBounds_toArray])
          refine wpAnyH_get 17 (some 32) (.agg #[.string u, .slice A1 el.length c1]) rfl rfl (by kernel_rfl) (by kernel_rfl) (by kernel_rfl) (fun _ _ _ h => h) (by rfl) hHeld ?_ ?_
          · (intro w hSw; (try dsimp only at hSw); go_simp; all_goals (try with_reducible rfl))
          simp only [Act.put]
          refine wpAnyH_ready (rs := [18]) (by kernel_rfl) (by simp) ?_
          refine AllReadyH.cons rfl (fun K hK => ?_) AllReadyH.nil
          go_simp
          have BZ5 : Below we.heap.size we (Z4.alloc (.cells #[.string u, .slice A1 el.length c1] 110)) := BZ4.alloc BZ4.size _
          have HNW := Lib.hid (cells_new Z4 110 [.string u, .slice A1 el.length c1])
          have hA1 := hA1.alloc (.cells #[.string u, .slice A1 el.length c1] 110)
          refine hK.out _ _ ⟨keep_cell BZ5 a1, keep_cell BZ5 k0, keep_cell BZ5 k1, keep_cell BZ5 k2, keep_cell BZ5 k3, keep_cell BZ5 k4⟩ (fun hHeld => ?_)
          clear hK K
          (try simp only [Act.put, List.setIfInBounds_toArray, List.set_cons_zero, List.set_cons_succ])
          have hzz : we.heap.size ≤ Z4.heap.size := BZ4.size
          have hz1 : (Z4.alloc (.cells #[.string u, .slice A1 el.length c1] 110)).heap.size = Z4.heap.size + 1 := by simp
          generalize Z4.alloc (.cells [.string u, .slice A1 el.length c1].toArray 110) = Z5 at *
          generalize Z4.heap.size = g8 at *
          refine wpAnyH_ready (rs := [19]) (by kernel_rfl) (by simp) ?_
          refine AllReadyH.cons rfl (fun K hK => ?_) AllReadyH.nil
          have hownY := own_below HST.out.own BZ5 (Nat.le_refl _)
          refine step_append_lies _ (by rfl) _ _ 69 (by rfl) (w.heap.size + 3) 110 i0 _ 2 40 Tryz.underlying69 hi iz0 iz1 iz2 rfl (by decide) (.slice A tv.length c) tv.length (tv.flatMap TV.cells) (by simp [Act.eval]) hownY ⟨g8, 0, none⟩ 1 1 [.string u, .slice A1 el.length c1] (by simp [Act.eval]) rfl HNW.out (by simp [Value.oneCell']) (by omega) (by simp only [maxLen]; omega) (by omega) (by omega) (g8 + 1) hz1 ?_
          intro g cap w3 hown' hgrow _ _
          have K1 := Blk.grown (HST.out.b1.keep BZ5 HST.out.b1.lt) hgrow (own_blk_ne hownY (HST.out.b1.keep BZ5 HST.out.b1.lt) (by decide))
          have K2 := Blk.grown (HST.out.b2.keep BZ5 HST.out.b2.lt) hgrow (own_blk_ne hownY (HST.out.b2.keep BZ5 HST.out.b2.lt) (by decide))
          have K3 := Blk.grown (HST.out.b3.keep BZ5 HST.out.b3.lt) hgrow (own_blk_ne hownY (HST.out.b3.keep BZ5 HST.out.b3.lt) (by decide))
          have ho1 := own_blk_ne hownY (HST.out.b1.keep BZ5 HST.out.b1.lt) (by decide)
          have t0 := hgrow.cell (keep_cell BZ5 a1) ho1
          have t1 := hgrow.cell (keep_cell BZ5 k0) hoa
          have t2 := hgrow.cell (keep_cell BZ5 k1) hoa
          have t3 := hgrow.cell (keep_cell BZ5 k2) hoa
          have t4 := hgrow.cell (keep_cell BZ5 k3) hoa
          have t5 := hgrow.cell (keep_cell BZ5 k4) hoa
          refine hK.out _ _ ⟨t0, t1, t2, t3, t4, t5⟩ (fun hHeld => ?_)
          clear hK K
          (try simp only [Act.put, List.setIfInBounds_toArray])
          refine wpAnyH_get 20 (some 35) (.pointer (some ⟨w.heap.size + 1 + 1, 1, none⟩)) rfl rfl (by kernel_rfl) (by kernel_rfl) (by kernel_rfl) (fun _ _ _ h => h) (by rfl) hHeld ?_ ?_
          · (intro w hSw; (try dsimp only at hSw); go_simp; all_goals (try with_reducible rfl))
          simp only [Act.put]
          refine wpAnyH_ready (rs := [21]) (by kernel_rfl) (by simp) ?_
          refine AllReadyH.cons rfl (fun K hK => ?_) AllReadyH.nil
          obtain ⟨y0, y1, y2, y3⟩ := K3.two
          have HMY : Hid (∀ t ∈ tv, w3.ownsRow w.heap.size 3 1 (.slice t.adr t.exps.length t.cap) t.exps.length (t.exps.map vi)) := Lib.hid (fun t ht => (own_below (HST.out.mine t ht) BZ5 (Nat.le_refl _)).kept hgrow (own_ne (own_below (HST.out.mine t ht) BZ5 (Nat.le_refl _)) hownY (by decide)))
          have hA3 := hA1.kept hgrow (own_ne hA1 hownY (by decide))
          have hbG := Below.grown (below_all hbr BZ5) hgrow (by omega) (fun j hj => by have := (hownY.lt j hj).1; omega)
          go_simp
          refine hK.out _ _ ⟨FAR.out _ _ _ _ t0 f2, FAR.out _ _ _ _ t1 f3, FAR.out _ _ _ _ t2 f3, FAR.out _ _ _ _ t3 f3, FAR.out _ _ _ _ t4 f3, FAR.out _ _ _ _ t5 f3⟩ (fun hHeld => ?_)
          clear hK K
          (try simp only [Act.put, List.setIfInBounds_toArray, List.set_cons_zero, List.set_cons_succ])
          refine wpAnyH_done (by kernel_rfl) ?_ _
          clear t0 t1 t2 t3 t4 t5 y0 y1 y2 y3
          go_wp2
          go_roundw
          case rel =>
            refine ⟨k + 1, some ⟨g, 0, none⟩, cap, tv ++ [⟨u, A1, c1, el⟩], by go_num, by omega, Lib.hid ⟨?_, ?_, ?_, ?_, ?_, ?_, ?_⟩⟩
            · rw [HPL.out, List.map_append, HST.out.pl]; rfl
            · exact below_far hbG (by omega) _ _
            · exact K1.far (by show w.heap.size ≠ w.heap.size + 1 + 1; omega) _
            · exact K2.far (by show w.heap.size + 1 ≠ w.heap.size + 1 + 1; omega) _
            · rw [List.length_append]; exact K3.set 1 _
            · rw [List.length_append, List.flatMap_append]; exact own_far hown' (own_blk_ne hown' K3 (by decide)) _
            · intro t ht
              rcases List.mem_append.1 ht with h | h
              · exact own_far (HMY.out t h) (own_blk_ne (HMY.out t h) K3 (by decide)) _
              · rw [List.mem_singleton.1 h]
                exact own_far hA3 (own_blk_ne hA3 K3 (by decide)) _
          case measure => simp [intOf]; omega
        · go_simp
          have G9 := Blk.new Z 3 #[]
          have BZ6 : Below we.heap.size we (Z.alloc (.cells #[] 3)) := BZ.alloc BZ.size _
          have hg9 : we.heap.size ≤ Z.heap.size := BZ.size
          refine hK.out _ _ ⟨keep_cell BZ6 a1, keep_cell BZ6 k0, keep_cell BZ6 k1, keep_cell BZ6 k2, keep_cell BZ6 k3, keep_cell BZ6 k4⟩ (fun hHeld => ?_)
          clear hK K
          (try simp only [Act.put, List.setIfInBounds_toArray, List.set_cons_zero, List.set_cons_succ])
          generalize Z.alloc (.cells #[] 3) = Z6 at *
          generalize Z.heap.size = g9 at *
          refine wpAnyH_ready (rs := [8]) (by kernel_rfl) (by simp) ?_
          refine AllReadyH.cons rfl (fun K hK => ?_) AllReadyH.nil
          go_simp
          refine (HTX.out _ BZ6).mono ?_
          rintro e Z7 ⟨rfl, hbz⟩
          (try go_simp)
          have BZ7 := below_all BZ6 hbz
          have G9 := G9.keep hbz G9.lt
          refine hK.out _ _ ⟨keep_cell BZ7 a1, keep_cell BZ7 k0, keep_cell BZ7 k1, keep_cell BZ7 k2, keep_cell BZ7 k3, keep_cell BZ7 k4⟩ (fun hHeld => ?_)
          clear hK K hbz
          (try simp only [Act.put, List.setIfInBounds_toArray, List.set_cons_zero, List.set_cons_succ])
          refine wpAnyH_ready (rs := [16]) (by kernel_rfl) (by simp) ?_
          refine AllReadyH.cons rfl (fun K hK => ?_) AllReadyH.nil
          refine step_clone (by rfl) _ _ (by rfl) g9 w.heap.size (by simp [Act.eval]) G9 (by omega) E ce el (by simp [Act.eval]) (HIK.out.keep BZ7) (by omega) ?_
          intro A1 c1 Z8 hA1 hbz
          have BZ8 : Below we.heap.size we Z8 := BZ7.trans (hbz.mono hg9)
          refine hK.out _ _ ⟨keep_cell BZ8 a1, keep_cell BZ8 k0, keep_cell BZ8 k1, keep_cell BZ8 k2, keep_cell BZ8 k3, keep_cell BZ8 k4⟩ (fun hHeld => ?_)
          clear hK K hbz G9
          (try simp only [Act.put, List.setIfInBounds_toArray])
          refine wpAnyH_get 17 (some 32) (.agg #[.string u, .slice A1 el.length c1]) rfl rfl (by kernel_rfl) (by kernel_rfl) (by kernel_rfl) (fun _ _ _ h => h) (by rfl) hHeld ?_ ?_
          · (intro w hSw; (try dsimp only at hSw); go_simp; all_goals (try with_reducible rfl))
          simp only [Act.put]
          refine wpAnyH_ready (rs := [18]) (by kernel_rfl) (by simp) ?_
          refine AllReadyH.cons rfl (fun K hK => ?_) AllReadyH.nil
          go_simp
          have BZ9 : Below we.heap.size we (Z8.alloc (.cells #[.string u, .slice A1 el.length c1] 110)) := BZ8.alloc BZ8.size _
          have HNW := Lib.hid (cells_new Z8 110 [.string u, .slice A1 el.length c1])
          have hA1 := hA1.alloc (.cells #[.string u, .slice A1 el.length c1] 110)
          refine hK.out _ _ ⟨keep_cell BZ9 a1, keep_cell BZ9 k0, keep_cell BZ9 k1, keep_cell BZ9 k2, keep_cell BZ9 k3, keep_cell BZ9 k4⟩ (fun hHeld => ?_)
          clear hK K
          (try simp only [Act.put, List.setIfInBounds_toArray, List.set_cons_zero, List.set_cons_succ])
          have hzz : we.heap.size ≤ Z8.heap.size := BZ8.size
          have hz1 : (Z8.alloc (.cells #[.string u, .slice A1 el.length c1] 110)).heap.size = Z8.heap.size + 1 := by simp
          generalize Z8.alloc (.cells [.string u, .slice A1 el.length c1].toArray 110) = Z9 at *
          generalize Z8.heap.size = g8 at *
          refine wpAnyH_ready (rs := [19]) (by kernel_rfl) (by simp) ?_
          refine AllReadyH.cons rfl (fun K hK => ?_) AllReadyH.nil
          have hownY := own_below HST.out.own BZ9 (Nat.le_refl _)
          refine step_append_lies _ (by rfl) _ _ 69 (by rfl) (w.heap.size + 3) 110 i0 _ 2 40 Tryz.underlying69 hi iz0 iz1 iz2 rfl (by decide) (.slice A tv.length c) tv.length (tv.flatMap TV.cells) (by simp [Act.eval]) hownY ⟨g8, 0, none⟩ 1 1 [.string u, .slice A1 el.length c1] (by simp [Act.eval]) rfl HNW.out (by simp [Value.oneCell']) (by omega) (by simp only [maxLen]; omega) (by omega) (by omega) (g8 + 1) hz1 ?_
          intro g cap w3 hown' hgrow _ _
          have K1 := Blk.grown (HST.out.b1.keep BZ9 HST.out.b1.lt) hgrow (own_blk_ne hownY (HST.out.b1.keep BZ9 HST.out.b1.lt) (by decide))
          have K2 := Blk.grown (HST.out.b2.keep BZ9 HST.out.b2.lt) hgrow (own_blk_ne hownY (HST.out.b2.keep BZ9 HST.out.b2.lt) (by decide))
          have K3 := Blk.grown (HST.out.b3.keep BZ9 HST.out.b3.lt) hgrow (own_blk_ne hownY (HST.out.b3.keep BZ9 HST.out.b3.lt) (by decide))
          have ho1 := own_blk_ne hownY (HST.out.b1.keep BZ9 HST.out.b1.lt) (by decide)
          have t0 := hgrow.cell (keep_cell BZ9 a1) ho1
          have t1 := hgrow.cell (keep_cell BZ9 k0) hoa
          have t2 := hgrow.cell (keep_cell BZ9 k1) hoa
          have t3 := hgrow.cell (keep_cell BZ9 k2) hoa
          have t4 := hgrow.cell (keep_cell BZ9 k3) hoa
          have t5 := hgrow.cell (keep_cell BZ9 k4) hoa
          refine hK.out _ _ ⟨t0, t1, t2, t3, t4, t5⟩ (fun hHeld => ?_)
          clear hK K
          (try simp only [Act.put, List.setIfInBounds_toArray])
          refine wpAnyH_get 20 (some 35) (.pointer (some ⟨w.heap.size + 1 + 1, 1, none⟩)) rfl rfl (by kernel_rfl) (by kernel_rfl) (by kernel_rfl) (fun _ _ _ h => h) (by rfl) hHeld ?_ ?_
          · (intro w hSw; (try dsimp only at hSw); go_simp; all_goals (try with_reducible rfl))
          simp only [Act.put]
          refine wpAnyH_ready (rs := [21]) (by kernel_rfl) (by simp) ?_
          refine AllReadyH.cons rfl (fun K hK => ?_) AllReadyH.nil
          obtain ⟨y0, y1, y2, y3⟩ := K3.two
          have HMY : Hid (∀ t ∈ tv, w3.ownsRow w.heap.size 3 1 (.slice t.adr t.exps.length t.cap) t.exps.length (t.exps.map vi)) := Lib.hid (fun t ht => (own_below (HST.out.mine t ht) BZ9 (Nat.le_refl _)).kept hgrow (own_ne (own_below (HST.out.mine t ht) BZ9 (Nat.le_refl _)) hownY (by decide)))
          have hA3 := hA1.kept hgrow (own_ne hA1 hownY (by decide))
          have hbG := Below.grown (below_all hbr BZ9) hgrow (by omega) (fun j hj => by have := (hownY.lt j hj).1; omega)
          go_simp
          refine hK.out _ _ ⟨FAR.out _ _ _ _ t0 f2, FAR.out _ _ _ _ t1 f3, FAR.out _ _ _ _ t2 f3, FAR.out _ _ _ _ t3 f3, FAR.out _ _ _ _ t4 f3, FAR.out _ _ _ _ t5 f3⟩ (fun hHeld => ?_)
          clear hK K
          (try simp only [Act.put, List.setIfInBounds_toArray, List.set_cons_zero, List.set_cons_succ])
          refine wpAnyH_done (by kernel_rfl) ?_ _
          clear t0 t1 t2 t3 t4 t5 y0 y1 y2 y3
          go_wp2
          go_roundw
          case rel =>
            refine ⟨k + 1, some ⟨g, 0, none⟩, cap, tv ++ [⟨u, A1, c1, el⟩], by go_num, by omega, Lib.hid ⟨?_, ?_, ?_, ?_, ?_, ?_, ?_⟩⟩
            · rw [HPL.out, List.map_append, HST.out.pl]; rfl
            · exact below_far hbG (by omega) _ _
            · exact K1.far (by show w.heap.size ≠ w.heap.size + 1 + 1; omega) _
            · exact K2.far (by show w.heap.size + 1 ≠ w.heap.size + 1 + 1; omega) _
            · rw [List.length_append]; exact K3.set 1 _
            · rw [List.length_append, List.flatMap_append]; exact own_far hown' (own_blk_ne hown' K3 (by decide)) _
            · intro t ht
              rcases List.mem_append.1 ht with h | h
              · exact own_far (HMY.out t h) (own_blk_ne (HMY.out t h) K3 (by decide)) _
              · rw [List.mem_singleton.1 h]
                exact own_far hA3 (own_blk_ne hA3 K3 (by decide)) _
          case measure => simp [intOf]; omega
      · go_simp
        refine (HTX.out _ BZ).mono ?_
        rintro e Z10 ⟨rfl, hbz⟩
        (try go_simp)
        have BZ10 := below_all BZ hbz
        refine hK.out _ _ ⟨keep_cell BZ10 a1, keep_cell BZ10 k0, keep_cell BZ10 k1, keep_cell BZ10 k2, keep_cell BZ10 k3, keep_cell BZ10 k4⟩ (fun hHeld => ?_)
        clear hK K hbz
        (try simp only [Act.put, List.setIfInBounds_toArray, List.set_cons_zero, List.set_cons_succ])
        refine wpAnyH_ready (rs := [1, 9]) (by kernel_rfl) (by simp) ?_
        refine AllReadyH.cons rfl (fun K hK => ?_) (AllReadyH.cons rfl (fun K hK => ?_) AllReadyH.nil)
        · have bz := keep_cell BZ10 b1
          go_simp
          refine hK.out _ _ ⟨keep_cell BZ10 a1, keep_cell BZ10 k0, keep_cell BZ10 k1, keep_cell BZ10 k2, keep_cell BZ10 k3, keep_cell BZ10 k4⟩ (fun hHeld => ?_)
          clear hK K bz
          (try simp only [Act.put, List.setIfInBounds_toArray, List.set_cons_zero, List.set_cons_succ])
          refine wpAnyH_ready (rs := [9]) (by kernel_rfl) (by simp) ?_
          refine AllReadyH.cons rfl (fun K hK => ?_) AllReadyH.nil
          go_simp
          have G9 := Blk.new Z10 3 #[]
          have BZ12 : Below we.heap.size we (Z10.alloc (.cells #[] 3)) := BZ10.alloc BZ10.size _
          have hg9 : we.heap.size ≤ Z10.heap.size := BZ10.size
          refine hK.out _ _ ⟨keep_cell BZ12 a1, keep_cell BZ12 k0, keep_cell BZ12 k1, keep_cell BZ12 k2, keep_cell BZ12 k3, keep_cell BZ12 k4⟩ (fun hHeld => ?_)
          clear hK K
          (try simp only [Act.put, List.setIfInBounds_toArray, List.set_cons_zero, List.set_cons_succ])
          generalize Z10.alloc (.cells #[] 3) = Z12 at *
          generalize Z10.heap.size = g9 at *
          refine wpAnyH_ready (rs := [16]) (by kernel_rfl) (by simp) ?_
          refine AllReadyH.cons rfl (fun K hK => ?_) AllReadyH.nil
          refine step_clone (by rfl) _ _ (by rfl) g9 w.heap.size (by simp [Act.eval]) G9 (by omega) E ce el (by simp [Act.eval]) (HIK.out.keep BZ12) (by omega) ?_
          intro A1 c1 Z13 hA1 hbz
          have BZ13 : Below we.heap.size we Z13 := BZ12.trans (hbz.mono hg9)
          refine hK.out _ _ ⟨keep_cell BZ13 a1, keep_cell BZ13 k0, keep_cell BZ13 k1, keep_cell BZ13 k2, keep_cell BZ13 k3, keep_cell BZ13 k4⟩ (fun hHeld => ?_)
          clear hK K hbz G9
          (try simp only [Act.put, List.setIfInBounds_toArray])
          refine wpAnyH_get 17 (some 32) (.agg #[.string u, .slice A1 el.length c1]) rfl rfl (by kernel_rfl) (by kernel_rfl) (by kernel_rfl) (fun _ _ _ h => h) (by rfl) hHeld ?_ ?_
          · (intro w hSw; (try dsimp only at hSw); go_simp; all_goals (try with_reducible rfl))
          simp only [Act.put]
          refine wpAnyH_ready (rs := [18]) (by kernel_rfl) (by simp) ?_
          refine AllReadyH.cons rfl (fun K hK => ?_) AllReadyH.nil
          go_simp
          have BZ14 : Below we.heap.size we (Z13.alloc (.cells #[.string u, .slice A1 el.length c1] 110)) := BZ13.alloc BZ13.size _
          have HNW := Lib.hid (cells_new Z13 110 [.string u, .slice A1 el.length c1])
          have hA1 := hA1.alloc (.cells #[.string u, .slice A1 el.length c1] 110)
          refine hK.out _ _ ⟨keep_cell BZ14 a1, keep_cell BZ14 k0, keep_cell BZ14 k1, keep_cell BZ14 k2, keep_cell BZ14 k3, keep_cell BZ14 k4⟩ (fun hHeld => ?_)
          clear hK K
          (try simp only [Act.put, List.setIfInBounds_toArray, List.set_cons_zero, List.set_cons_succ])
          have hzz : we.heap.size ≤ Z13.heap.size := BZ13.size
          have hz1 : (Z13.alloc (.cells #[.string u, .slice A1 el.length c1] 110)).heap.size = Z13.heap.size + 1 := by simp
          generalize Z13.alloc (.cells [.string u, .slice A1 el.length c1].toArray 110) = Z14 at *
          generalize Z13.heap.size = g8 at *
          refine wpAnyH_ready (rs := [19]) (by kernel_rfl) (by simp) ?_
          refine AllReadyH.cons rfl (fun K hK => ?_) AllReadyH.nil
          have hownY := own_below HST.out.own BZ14 (Nat.le_refl _)
          refine step_append_lies _ (by rfl) _ _ 69 (by rfl) (w.heap.size + 3) 110 i0 _ 2 40 Tryz.underlying69 hi iz0 iz1 iz2 rfl (by decide) (.slice A tv.length c) tv.length (tv.flatMap TV.cells) (by simp [Act.eval]) hownY ⟨g8, 0, none⟩ 1 1 [.string u, .slice A1 el.length c1] (by simp [Act.eval]) rfl HNW.out (by simp [Value.oneCell']) (by omega) (by simp only [maxLen]; omega) (by omega) (by omega) (g8 + 1) hz1 ?_
          intro g cap w3 hown' hgrow _ _
          have K1 := Blk.grown (HST.out.b1.keep BZ14 HST.out.b1.lt) hgrow (own_blk_ne hownY (HST.out.b1.keep BZ14 HST.out.b1.lt) (by decide))
          have K2 := Blk.grown (HST.out.b2.keep BZ14 HST.out.b2.lt) hgrow (own_blk_ne hownY (HST.out.b2.keep BZ14 HST.out.b2.lt) (by decide))
          have K3 := Blk.grown (HST.out.b3.keep BZ14 HST.out.b3.lt) hgrow (own_blk_ne hownY (HST.out.b3.keep BZ14 HST.out.b3.lt) (by decide))
          have ho1 := own_blk_ne hownY (HST.out.b1.keep BZ14 HST.out.b1.lt) (by decide)
          have t0 := hgrow.cell (keep_cell BZ14 a1) ho1
          have t1 := hgrow.cell (keep_cell BZ14 k0) hoa
          have t2 := hgrow.cell (keep_cell BZ14 k1) hoa
          have t3 := hgrow.cell (keep_cell BZ14 k2) hoa
          have t4 := hgrow.cell (keep_cell BZ14 k3) hoa
          have t5 := hgrow.cell (keep_cell BZ14 k4) hoa
          refine hK.out _ _ ⟨t0, t1, t2, t3, t4, t5⟩ (fun hHeld => ?_)
          clear hK K
          (try simp only [Act.put, List.setIfInBounds_toArray])
          refine wpAnyH_get 20 (some 35) (.pointer (some ⟨w.heap.size + 1 + 1, 1, none⟩)) rfl rfl (by kernel_rfl) (by kernel_rfl) (by kernel_rfl) (fun _ _ _ h => h) (by rfl) hHeld ?_ ?_
          · (intro w hSw; (try dsimp only at hSw); go_simp; all_goals (try with_reducible rfl))
          simp only [Act.put]
          refine wpAnyH_ready (rs := [21]) (by kernel_rfl) (by simp) ?_
          refine AllReadyH.cons rfl (fun K hK => ?_) AllReadyH.nil
          obtain ⟨y0, y1, y2, y3⟩ := K3.two
          have HMY : Hid (∀ t ∈ tv, w3.ownsRow w.heap.size 3 1 (.slice t.adr t.exps.length t.cap) t.exps.length (t.exps.map vi)) := Lib.hid (fun t ht => (own_below (HST.out.mine t ht) BZ14 (Nat.le_refl _)).kept hgrow (own_ne (own_below (HST.out.mine t ht) BZ14 (Nat.le_refl _)) hownY (by decide)))
          have hA3 := hA1.kept hgrow (own_ne hA1 hownY (by decide))
          have hbG := Below.grown (below_all hbr BZ14) hgrow (by omega) (fun j hj => by have := (hownY.lt j hj).1; omega)
          go_simp
          refine hK.out _ _ ⟨FAR.out _ _ _ _ t0 f2, FAR.out _ _ _ _ t1 f3, FAR.out _ _ _ _ t2 f3, FAR.out _ _ _ _ t3 f3, FAR.out _ _ _ _ t4 f3, FAR.out _ _ _ _ t5 f3⟩ (fun hHeld => ?_)
          clear hK K
          (try simp only [Act.put, List.setIfInBounds_toArray, List.set_cons_zero, List.set_cons_succ])
          refine wpAnyH_done (by kernel_rfl) ?_ _
          clear t0 t1 t2 t3 t4 t5 y0 y1 y2 y3
          go_wp2
          go_roundw
          case rel =>
            refine ⟨k + 1, some ⟨g, 0, none⟩, cap, tv ++ [⟨u, A1, c1, el⟩], by go_num, by omega, Lib.hid ⟨?_, ?_, ?_, ?_, ?_, ?_, ?_⟩⟩
            · rw [HPL.out, List.map_append, HST.out.pl]; rfl
            · exact below_far hbG (by omega) _ _
            · exact K1.far (by show w.heap.size ≠ w.heap.size + 1 + 1; omega) _
            · exact K2.far (by show w.heap.size + 1 ≠ w.heap.size + 1 + 1; omega) _
            · rw [List.length_append]; exact K3.set 1 _
            · rw [List.length_append, List.flatMap_append]; exact own_far hown' (own_blk_ne hown' K3 (by decide)) _
            · intro t ht
              rcases List.mem_append.1 ht with h | h
              · exact own_far (HMY.out t h) (own_blk_ne (HMY.out t h) K3 (by decide)) _
              · rw [List.mem_singleton.1 h]
                exact own_far hA3 (own_blk_ne hA3 K3 (by decide)) _
          case measure => simp [intOf]; omega
        · go_simp
          have G9 := Blk.new Z10 3 #[]
          have BZ15 : Below we.heap.size we (Z10.alloc (.cells #[] 3)) := BZ10.alloc BZ10.size _
          have hg9 : we.heap.size ≤ Z10.heap.size := BZ10.size
          refine hK.out _ _ ⟨keep_cell BZ15 a1, keep_cell BZ15 k0, keep_cell BZ15 k1, keep_cell BZ15 k2, keep_cell BZ15 k3, keep_cell BZ15 k4⟩ (fun hHeld => ?_)
          clear hK K
          (try simp only [Act.put, List.setIfInBounds_toArray, List.set_cons_zero, List.set_cons_succ])
          generalize Z10.alloc (.cells #[] 3) = Z15 at *
          generalize Z10.heap.size = g9 at *
          refine wpAnyH_ready (rs := [1, 16]) (by kernel_rfl) (by simp) ?_
          refine AllReadyH.cons rfl (fun K hK => ?_) (AllReadyH.cons rfl (fun K hK => ?_) AllReadyH.nil)
          · have bz := keep_cell BZ15 b1
            go_simp
            refine hK.out _ _ ⟨keep_cell BZ15 a1, keep_cell BZ15 k0, keep_cell BZ15 k1, keep_cell BZ15 k2, keep_cell BZ15 k3, keep_cell BZ15 k4⟩ (fun hHeld => ?_)
            clear hK K bz
            (try simp only [Act.put, List.setIfInBounds_toArray, List.set_cons_zero, List.set_cons_succ])
            refine wpAnyH_ready (rs := [16]) (by kernel_rfl) (by simp) ?_
            refine AllReadyH.cons rfl (fun K hK => ?_) AllReadyH.nil
            refine step_clone (by rfl) _ _ (by rfl) g9 w.heap.size (by simp [Act.eval]) G9 (by omega) E ce el (by simp [Act.eval]) (HIK.out.keep BZ15) (by omega) ?_
            intro A1 c1 Z17 hA1 hbz
            have BZ17 : Below we.heap.size we Z17 := BZ15.trans (hbz.mono hg9)
            refine hK.out _ _ ⟨keep_cell BZ17 a1, keep_cell BZ17 k0, keep_cell BZ17 k1, keep_cell BZ17 k2, keep_cell BZ17 k3, keep_cell BZ17 k4⟩ (fun hHeld => ?_)
            clear hK K hbz G9
            (try simp only [Act.put, List.setIfInBounds_toArray])
            refine wpAnyH_get 17 (some 32) (.agg #[.string u, .slice A1 el.length c1]) rfl rfl (by kernel_rfl) (by kernel_rfl) (by kernel_rfl) (fun _ _ _ h => h) (by rfl) hHeld ?_ ?_
            · (intro w hSw; (try dsimp only at hSw); go_simp; all_goals (try with_reducible rfl))
            simp only [Act.put]
            refine wpAnyH_ready (rs := [18]) (by kernel_rfl) (by simp) ?_
            refine AllReadyH.cons rfl (fun K hK => ?_) AllReadyH.nil
            go_simp
            have BZ18 : Below we.heap.size we (Z17.alloc (.cells #[.string u, .slice A1 el.length c1] 110)) := BZ17.alloc BZ17.size _
            have HNW := Lib.hid (cells_new Z17 110 [.string u, .slice A1 el.length c1])
            have hA1 := hA1.alloc (.cells #[.string u, .slice A1 el.length c1] 110)
            refine hK.out _ _ ⟨keep_cell BZ18 a1, keep_cell BZ18 k0, keep_cell BZ18 k1, keep_cell BZ18 k2, keep_cell BZ18 k3, keep_cell BZ18 k4⟩ (fun hHeld => ?_)
            clear hK K
            (try simp only [Act.put, List.setIfInBounds_toArray, List.set_cons_zero, List.set_cons_succ])
            have hzz : we.heap.size ≤ Z17.heap.size := BZ17.size
            have hz1 : (Z17.alloc (.cells #[.string u, .slice A1 el.length c1] 110)).heap.size = Z17.heap.size + 1 := by simp
            generalize Z17.alloc (.cells [.string u, .slice A1 el.length c1].toArray 110) = Z18 at *
            generalize Z17.heap.size = g8 at *
            refine wpAnyH_ready (rs := [19]) (by kernel_rfl) (by simp) ?_
            refine AllReadyH.cons rfl (fun K hK => ?_) AllReadyH.nil
            have hownY := own_below HST.out.own BZ18 (Nat.le_refl _)
            refine step_append_lies _ (by rfl) _ _ 69 (by rfl) (w.heap.size + 3) 110 i0 _ 2 40 Tryz.underlying69 hi iz0 iz1 iz2 rfl (by decide) (.slice A tv.length c) tv.length (tv.flatMap TV.cells) (by simp [Act.eval]) hownY ⟨g8, 0, none⟩ 1 1 [.string u, .slice A1 el.length c1] (by simp [Act.eval]) rfl HNW.out (by simp [Value.oneCell']) (by omega) (by simp only [maxLen]; omega) (by omega) (by omega) (g8 + 1) hz1 ?_
            intro g cap w3 hown' hgrow _ _
            have K1 := Blk.grown (HST.out.b1.keep BZ18 HST.out.b1.lt) hgrow (own_blk_ne hownY (HST.out.b1.keep BZ18 HST.out.b1.lt) (by decide))
            have K2 := Blk.grown (HST.out.b2.keep BZ18 HST.out.b2.lt) hgrow (own_blk_ne hownY (HST.out.b2.keep BZ18 HST.out.b2.lt) (by decide))
            have K3 := Blk.grown (HST.out.b3.keep BZ18 HST.out.b3.lt) hgrow (own_blk_ne hownY (HST.out.b3.keep BZ18 HST.out.b3.lt) (by decide))
            have ho1 := own_blk_ne hownY (HST.out.b1.keep BZ18 HST.out.b1.lt) (by decide)
            have t0 := hgrow.cell (keep_cell BZ18 a1) ho1
            have t1 := hgrow.cell (keep_cell BZ18 k0) hoa
            have t2 := hgrow.cell (keep_cell BZ18 k1) hoa
            have t3 := hgrow.cell (keep_cell BZ18 k2) hoa
            have t4 := hgrow.cell (keep_cell BZ18 k3) hoa
            have t5 := hgrow.cell (keep_cell BZ18 k4) hoa
            refine hK.out _ _ ⟨t0, t1, t2, t3, t4, t5⟩ (fun hHeld => ?_)
            clear hK K
            (try simp only [Act.put, List.setIfInBounds_toArray])
            refine wpAnyH_get 20 (some 35) (.pointer (some ⟨w.heap.size + 1 + 1, 1, none⟩)) rfl rfl (by kernel_rfl) (by kernel_rfl) (by kernel_rfl) (fun _ _ _ h => h) (by rfl) hHeld ?_ ?_
            · (intro w hSw; (try dsimp only at hSw); go_simp; all_goals (try with_reducible rfl))
            simp only [Act.put]
            refine wpAnyH_ready (rs := [21]) (by kernel_rfl) (by simp) ?_
            refine AllReadyH.cons rfl (fun K hK => ?_) AllReadyH.nil
            obtain ⟨y0, y1, y2, y3⟩ := K3.two
            have HMY : Hid (∀ t ∈ tv, w3.ownsRow w.heap.size 3 1 (.slice t.adr t.exps.length t.cap) t.exps.length (t.exps.map vi)) := Lib.hid (fun t ht => (own_below (HST.out.mine t ht) BZ18 (Nat.le_refl _)).kept hgrow (own_ne (own_below (HST.out.mine t ht) BZ18 (Nat.le_refl _)) hownY (by decide)))
            have hA3 := hA1.kept hgrow (own_ne hA1 hownY (by decide))
            have hbG := Below.grown (below_all hbr BZ18) hgrow (by omega) (fun j hj => by have := (hownY.lt j hj).1; omega)
            go_simp
            refine hK.out _ _ ⟨FAR.out _ _ _ _ t0 f2, FAR.out _ _ _ _ t1 f3, FAR.out _ _ _ _ t2 f3, FAR.out _ _ _ _ t3 f3, FAR.out _ _ _ _ t4 f3, FAR.out _ _ _ _ t5 f3⟩ (fun hHeld => ?_)
            clear hK K
            (try simp only [Act.put, List.setIfInBounds_toArray, List.set_cons_zero, List.set_cons_succ])
            refine wpAnyH_done (by kernel_rfl) ?_ _
            clear t0 t1 t2 t3 t4 t5 y0 y1 y2 y3
            go_wp2
            go_roundw
            case rel =>
              refine ⟨k + 1, some ⟨g, 0, none⟩, cap, tv ++ [⟨u, A1, c1, el⟩], by go_num, by omega, Lib.hid ⟨?_, ?_, ?_, ?_, ?_, ?_, ?_⟩⟩
              · rw [HPL.out, List.map_append, HST.out.pl]; rfl
              · exact below_far hbG (by omega) _ _
              · exact K1.far (by show w.heap.size ≠ w.heap.size + 1 + 1; omega) _
              · exact K2.far (by show w.heap.size + 1 ≠ w.heap.size + 1 + 1; omega) _
              · rw [List.length_append]; exact K3.set 1 _
              · rw [List.length_append, List.flatMap_append]; exact own_far hown' (own_blk_ne hown' K3 (by decide)) _
              · intro t ht
                rcases List.mem_append.1 ht with h | h
                · exact own_far (HMY.out t h) (own_blk_ne (HMY.out t h) K3 (by decide)) _
                · rw [List.mem_singleton.1 h]
                  exact own_far hA3 (own_blk_ne hA3 K3 (by decide)) _
            case measure => simp [intOf]; omega
          · refine step_clone (by rfl) _ _ (by rfl) g9 w.heap.size (by simp [Act.eval]) G9 (by omega) E ce el (by simp [Act.eval]) (HIK.out.keep BZ15) (by omega) ?_
            intro A1 c1 Z19 hA1 hbz
            have BZ19 : Below we.heap.size we Z19 := BZ15.trans (hbz.mono hg9)
            refine hK.out _ _ ⟨keep_cell BZ19 a1, keep_cell BZ19 k0, keep_cell BZ19 k1, keep_cell BZ19 k2, keep_cell BZ19 k3, keep_cell BZ19 k4⟩ (fun hHeld => ?_)
            clear hK K hbz G9
            (try simp only [Act.put, List.setIfInBounds_toArray])
            refine wpAnyH_get 17 (some 32) (.agg #[.string u, .slice A1 el.length c1]) rfl rfl (by kernel_rfl) (by kernel_rfl) (by kernel_rfl) (fun _ _ _ h => h) (by rfl) hHeld ?_ ?_
            · (intro w hSw; (try dsimp only at hSw); go_simp; all_goals (try with_reducible rfl))
            simp only [Act.put]
            refine wpAnyH_ready (rs := [1, 18]) (by kernel_rfl) (by simp) ?_
            refine AllReadyH.cons rfl (fun K hK => ?_) (AllReadyH.cons rfl (fun K hK => ?_) AllReadyH.nil)
            · have bz := keep_cell BZ19 b1
              go_simp
              refine hK.out _ _ ⟨keep_cell BZ19 a1, keep_cell BZ19 k0, keep_cell BZ19 k1, keep_cell BZ19 k2, keep_cell BZ19 k3, keep_cell BZ19 k4⟩ (fun hHeld => ?_)
              clear hK K bz
              (try simp only [Act.put, List.setIfInBounds_toArray, List.set_cons_zero, List.set_cons_succ])
              refine wpAnyH_ready (rs := [18]) (by kernel_rfl) (by simp) ?_
              refine AllReadyH.cons rfl (fun K hK => ?_) AllReadyH.nil
              go_simp
              have BZ21 : Below we.heap.size we (Z19.alloc (.cells #[.string u, .slice A1 el.length c1] 110)) := BZ19.alloc BZ19.size _
              have HNW := Lib.hid (cells_new Z19 110 [.string u, .slice A1 el.length c1])
              have hA1 := hA1.alloc (.cells #[.string u, .slice A1 el.length c1] 110)
              refine hK.out _ _ ⟨keep_cell BZ21 a1, keep_cell BZ21 k0, keep_cell BZ21 k1, keep_cell BZ21 k2, keep_cell BZ21 k3, keep_cell BZ21 k4⟩ (fun hHeld => ?_)
              clear hK K
              (try simp only [Act.put, List.setIfInBounds_toArray, List.set_cons_zero, List.set_cons_succ])
              have hzz : we.heap.size ≤ Z19.heap.size := BZ19.size
              have hz1 : (Z19.alloc (.cells #[.string u, .slice A1 el.length c1] 110)).heap.size = Z19.heap.size + 1 := by simp
              generalize Z19.alloc (.cells [.string u, .slice A1 el.length c1].toArray 110) = Z21 at *
              generalize Z19.heap.size = g8 at *
              refine wpAnyH_ready (rs := [19]) (by kernel_rfl) (by simp) ?_
              refine AllReadyH.cons rfl (fun K hK => ?_) AllReadyH.nil
              have hownY := own_below HST.out.own BZ21 (Nat.le_refl _)
              refine step_append_lies _ (by rfl) _ _ 69 (by rfl) (w.heap.size + 3) 110 i0 _ 2 40 Tryz.underlying69 hi iz0 iz1 iz2 rfl (by decide) (.slice A tv.length c) tv.length (tv.flatMap TV.cells) (by simp [Act.eval]) hownY ⟨g8, 0, none⟩ 1 1 [.string u, .slice A1 el.length c1] (by simp [Act.eval]) rfl HNW.out (by simp [Value.oneCell']) (by omega) (by simp only [maxLen]; omega) (by omega) (by omega) (g8 + 1) hz1 ?_
              intro g cap w3 hown' hgrow _ _
              have K1 := Blk.grown (HST.out.b1.keep BZ21 HST.out.b1.lt) hgrow (own_blk_ne hownY (HST.out.b1.keep BZ21 HST.out.b1.lt) (by decide))
              have K2 := Blk.grown (HST.out.b2.keep BZ21 HST.out.b2.lt) hgrow (own_blk_ne hownY (HST.out.b2.keep BZ21 HST.out.b2.lt) (by decide))
              have K3 := Blk.grown (HST.out.b3.keep BZ21 HST.out.b3.lt) hgrow (own_blk_ne hownY (HST.out.b3.keep BZ21 HST.out.b3.lt) (by decide))
              have ho1 := own_blk_ne hownY (HST.out.b1.keep BZ21 HST.out.b1.lt) (by decide)
              have t0 := hgrow.cell (keep_cell BZ21 a1) ho1
              have t1 := hgrow.cell (keep_cell BZ21 k0) hoa
              have t2 := hgrow.cell (keep_cell BZ21 k1) hoa
              have t3 := hgrow.cell (keep_cell BZ21 k2) hoa
              have t4 := hgrow.cell (keep_cell BZ21 k3) hoa
              have t5 := hgrow.cell (keep_cell BZ21 k4) hoa
              refine hK.out _ _ ⟨t0, t1, t2, t3, t4, t5⟩ (fun hHeld => ?_)
              clear hK K
              (try simp only [Act.put, List.setIfInBounds_toArray])
              refine wpAnyH_get 20 (some 35) (.pointer (some ⟨w.heap.size + 1 + 1, 1, none⟩)) rfl rfl (by kernel_rfl) (by kernel_rfl) (by kernel_rfl) (fun _ _ _ h => h) (by rfl) hHeld ?_ ?_
              · (intro w hSw; (try dsimp only at hSw); go_simp; all_goals (try with_reducible rfl))
              simp only [Act.put]
              refine wpAnyH_ready (rs := [21]) (by kernel_rfl) (by simp) ?_
              refine AllReadyH.cons rfl (fun K hK => ?_) AllReadyH.nil
              obtain ⟨y0, y1, y2, y3⟩ := K3.two
              have HMY : Hid (∀ t ∈ tv, w3.ownsRow w.heap.size 3 1 (.slice t.adr t.exps.length t.cap) t.exps.length (t.exps.map vi)) := Lib.hid (fun t ht => (own_below (HST.out.mine t ht) BZ21 (Nat.le_refl _)).kept hgrow (own_ne (own_below (HST.out.mine t ht) BZ21 (Nat.le_refl _)) hownY (by decide)))
              have hA3 := hA1.kept hgrow (own_ne hA1 hownY (by decide))
              have hbG := Below.grown (below_all hbr BZ21) hgrow (by omega) (fun j hj => by have := (hownY.lt j hj).1; omega)
              go_simp
              refine hK.out _ _ ⟨FAR.out _ _ _ _ t0 f2, FAR.out _ _ _ _ t1 f3, FAR.out _ _ _ _ t2 f3, FAR.out _ _ _ _ t3 f3, FAR.out _ _ _ _ t4 f3, FAR.out _ _ _ _ t5 f3⟩ (fun hHeld => ?_)
              clear hK K
              (try simp only [Act.put, List.setIfInBounds_toArray, List.set_cons_zero, List.set_cons_succ])
              refine wpAnyH_done (by kernel_rfl) ?_ _
              clear t0 t1 t2 t3 t4 t5 y0 y1 y2 y3
              go_wp2
              go_roundw
              case rel =>
                refine ⟨k + 1, some ⟨g, 0, none⟩, cap, tv ++ [⟨u, A1, c1, el⟩], by go_num, by omega, Lib.hid ⟨?_, ?_, ?_, ?_, ?_, ?_, ?_⟩⟩
                · rw [HPL.out, List.map_append, HST.out.pl]; rfl
                · exact below_far hbG (by omega) _ _
                · exact K1.far (by show w.heap.size ≠ w.heap.size + 1 + 1; omega) _
                · exact K2.far (by show w.heap.size + 1 ≠ w.heap.size + 1 + 1; omega) _
                · rw [List.length_append]; exact K3.set 1 _
                · rw [List.length_append, List.flatMap_append]; exact own_far hown' (own_blk_ne hown' K3 (by decide)) _
                · intro t ht
                  rcases List.mem_append.1 ht with h | h
                  · exact own_far (HMY.out t h) (own_blk_ne (HMY.out t h) K3 (by decide)) _
                  · rw [List.mem_singleton.1 h]
                    exact own_far hA3 (own_blk_ne hA3 K3 (by decide)) _
              case measure => simp [intOf]; omega
            · go_simp
              have BZ22 : Below we.heap.size we (Z19.alloc (.cells #[.string u, .slice A1 el.length c1] 110)) := BZ19.alloc BZ19.size _
              have HNW := Lib.hid (cells_new Z19 110 [.string u, .slice A1 el.length c1])
              have hA1 := hA1.alloc (.cells #[.string u, .slice A1 el.length c1] 110)
              refine hK.out _ _ ⟨keep_cell BZ22 a1, keep_cell BZ22 k0, keep_cell BZ22 k1, keep_cell BZ22 k2, keep_cell BZ22 k3, keep_cell BZ22 k4⟩ (fun hHeld => ?_)
              clear hK K
              (try simp only [Act.put, List.setIfInBounds_toArray, List.set_cons_zero, List.set_cons_succ])
              have hzz : we.heap.size ≤ Z19.heap.size := BZ19.size
              have hz1 : (Z19.alloc (.cells #[.string u, .slice A1 el.length c1] 110)).heap.size = Z19.heap.size + 1 := by simp
              generalize Z19.alloc (.cells [.string u, .slice A1 el.length c1].toArray 110) = Z22 at *
              generalize Z19.heap.size = g8 at *
              refine wpAnyH_ready (rs := [1]) (by kernel_rfl) (by simp) ?_
              refine AllReadyH.cons rfl (fun K hK => ?_) AllReadyH.nil
              have bz := keep_cell BZ22 b1
              go_simp
              refine hK.out _ _ ⟨keep_cell BZ22 a1, keep_cell BZ22 k0, keep_cell BZ22 k1, keep_cell BZ22 k2, keep_cell BZ22 k3, keep_cell BZ22 k4⟩ (fun hHeld => ?_)
              clear hK K bz
              (try simp only [Act.put, List.setIfInBounds_toArray, List.set_cons_zero, List.set_cons_succ])
              refine wpAnyH_ready (rs := [19]) (by kernel_rfl) (by simp) ?_
              refine AllReadyH.cons rfl (fun K hK => ?_) AllReadyH.nil
              have hownY := own_below HST.out.own BZ22 (Nat.le_refl _)
              refine step_append_lies _ (by rfl) _ _ 69 (by rfl) (w.heap.size + 3) 110 i0 _ 2 40 Tryz.underlying69 hi iz0 iz1 iz2 rfl (by decide) (.slice A tv.length c) tv.length (tv.flatMap TV.cells) (by simp [Act.eval]) hownY ⟨g8, 0, none⟩ 1 1 [.string u, .slice A1 el.length c1] (by simp [Act.eval]) rfl HNW.out (by simp [Value.oneCell']) (by omega) (by simp only [maxLen]; omega) (by omega) (by omega) (g8 + 1) hz1 ?_
              intro g cap w3 hown' hgrow _ _
              have K1 := Blk.grown (HST.out.b1.keep BZ22 HST.out.b1.lt) hgrow (own_blk_ne hownY (HST.out.b1.keep BZ22 HST.out.b1.lt) (by decide))
              have K2 := Blk.grown (HST.out.b2.keep BZ22 HST.out.b2.lt) hgrow (own_blk_ne hownY (HST.out.b2.keep BZ22 HST.out.b2.lt) (by decide))
              have K3 := Blk.grown (HST.out.b3.keep BZ22 HST.out.b3.lt) hgrow (own_blk_ne hownY (HST.out.b3.keep BZ22 HST.out.b3.lt) (by decide))
              have ho1 := own_blk_ne hownY (HST.out.b1.keep BZ22 HST.out.b1.lt) (by decide)
              have t0 := hgrow.cell (keep_cell BZ22 a1) ho1
              have t1 := hgrow.cell (keep_cell BZ22 k0) hoa
              have t2 := hgrow.cell (keep_cell BZ22 k1) hoa
              have t3 := hgrow.cell (keep_cell BZ22 k2) hoa
              have t4 := hgrow.cell (keep_cell BZ22 k3) hoa
              have t5 := hgrow.cell (keep_cell BZ22 k4) hoa
              refine hK.out _ _ ⟨t0, t1, t2, t3, t4, t5⟩ (fun hHeld => ?_)
              clear hK K
              (try simp only [Act.put, List.setIfInBounds_toArray])
              refine wpAnyH_get 20 (some 35) (.pointer (some ⟨w.heap.size + 1 + 1, 1, none⟩)) rfl rfl (by kernel_rfl) (by kernel_rfl) (by kernel_rfl) (fun _ _ _ h => h) (by rfl) hHeld ?_ ?_
              · (intro w hSw; (try dsimp only at hSw); go_simp; all_goals (try with_reducible rfl))
              simp only [Act.put]
              refine wpAnyH_ready (rs := [21]) (by kernel_rfl) (by simp) ?_
              refine AllReadyH.cons rfl (fun K hK => ?_) AllReadyH.nil
              obtain ⟨y0, y1, y2, y3⟩ := K3.two
              have HMY : Hid (∀ t ∈ tv, w3.ownsRow w.heap.size 3 1 (.slice t.adr t.exps.length t.cap) t.exps.length (t.exps.map vi)) := Lib.hid (fun t ht => (own_below (HST.out.mine t ht) BZ22 (Nat.le_refl _)).kept hgrow (own_ne (own_below (HST.out.mine t ht) BZ22 (Nat.le_refl _)) hownY (by decide)))
              have hA3 := hA1.kept hgrow (own_ne hA1 hownY (by decide))
              have hbG := Below.grown (below_all hbr BZ22) hgrow (by omega) (fun j hj => by have := (hownY.lt j hj).1; omega)
              go_simp
              refine hK.out _ _ ⟨FAR.out _ _ _ _ t0 f2, FAR.out _ _ _ _ t1 f3, FAR.out _ _ _ _ t2 f3, FAR.out _ _ _ _ t3 f3, FAR.out _ _ _ _ t4 f3, FAR.out _ _ _ _ t5 f3⟩ (fun hHeld => ?_)
              clear hK K
              (try simp only [Act.put, List.setIfInBounds_toArray, List.set_cons_zero, List.set_cons_succ])
              refine wpAnyH_done (by kernel_rfl) ?_ _
              clear t0 t1 t2 t3 t4 t5 y0 y1 y2 y3
              go_wp2
              go_roundw
              case rel =>
                refine ⟨k + 1, some ⟨g, 0, none⟩, cap, tv ++ [⟨u, A1, c1, el⟩], by go_num, by omega, Lib.hid ⟨?_, ?_, ?_, ?_, ?_, ?_, ?_⟩⟩
                · rw [HPL.out, List.map_append, HST.out.pl]; rfl
                · exact below_far hbG (by omega) _ _
                · exact K1.far (by show w.heap.size ≠ w.heap.size + 1 + 1; omega) _
                · exact K2.far (by show w.heap.size + 1 ≠ w.heap.size + 1 + 1; omega) _
                · rw [List.length_append]; exact K3.set 1 _
                · rw [List.length_append, List.flatMap_append]; exact own_far hown' (own_blk_ne hown' K3 (by decide)) _
                · intro t ht
                  rcases List.mem_append.1 ht with h | h
                  · exact own_far (HMY.out t h) (own_blk_ne (HMY.out t h) K3 (by decide)) _
                  · rw [List.mem_singleton.1 h]
                    exact own_far hA3 (own_blk_ne hA3 K3 (by decide)) _
              case measure => simp [intOf]; omega
      · go_simp
        have G9 := Blk.new Z 3 #[]
        have BZ24 : Below we.heap.size we (Z.alloc (.cells #[] 3)) := BZ.alloc BZ.size _
        have hg9 : we.heap.size ≤ Z.heap.size := BZ.size
        refine hK.out _ _ ⟨keep_cell BZ24 a1, keep_cell BZ24 k0, keep_cell BZ24 k1, keep_cell BZ24 k2, keep_cell BZ24 k3, keep_cell BZ24 k4⟩ (fun hHeld => ?_)
        clear hK K
        (try simp only [Act.put, List.setIfInBounds_toArray, List.set_cons_zero, List.set_cons_succ])
        generalize Z.alloc (.cells #[] 3) = Z24 at *
        generalize Z.heap.size = g9 at *
        refine wpAnyH_ready (rs := [1, 8]) (by kernel_rfl) (by simp) ?_
        refine AllReadyH.cons rfl (fun K hK => ?_) (AllReadyH.cons rfl (fun K hK => ?_) AllReadyH.nil)
        · have bz := keep_cell BZ24 b1
          go_simp
          refine hK.out _ _ ⟨keep_cell BZ24 a1, keep_cell BZ24 k0, keep_cell BZ24 k1, keep_cell BZ24 k2, keep_cell BZ24 k3, keep_cell BZ24 k4⟩ (fun hHeld => ?_)
          clear hK K bz
          (try simp only [Act.put, List.setIfInBounds_toArray, List.set_cons_zero, List.set_cons_succ])
          refine wpAnyH_ready (rs := [8]) (by kernel_rfl) (by simp) ?_
          refine AllReadyH.cons rfl (fun K hK => ?_) AllReadyH.nil
          go_simp
          refine (HTX.out _ BZ24).mono ?_
          rintro e Z26 ⟨rfl, hbz⟩
          (try go_simp)
          have BZ26 := below_all BZ24 hbz
          have G9 := G9.keep hbz G9.lt
          refine hK.out _ _ ⟨keep_cell BZ26 a1, keep_cell BZ26 k0, keep_cell BZ26 k1, keep_cell BZ26 k2, keep_cell BZ26 k3, keep_cell BZ26 k4⟩ (fun hHeld => ?_)
          clear hK K hbz
          (try simp only [Act.put, List.setIfInBounds_toArray, List.set_cons_zero, List.set_cons_succ])
          refine wpAnyH_ready (rs := [16]) (by kernel_rfl) (by simp) ?_
          refine AllReadyH.cons rfl (fun K hK => ?_) AllReadyH.nil
          refine step_clone (by rfl) _ _ (by rfl) g9 w.heap.size (by simp [Act.eval]) G9 (by omega) E ce el (by simp [Act.eval]) (HIK.out.keep BZ26) (by omega) ?_
          intro A1 c1 Z27 hA1 hbz
          have BZ27 : Below we.heap.size we Z27 := BZ26.trans (hbz.mono hg9)
          refine hK.out _ _ ⟨keep_cell BZ27 a1, keep_cell BZ27 k0, keep_cell BZ27 k1, keep_cell BZ27 k2, keep_cell BZ27 k3, keep_cell BZ27 k4⟩ (fun hHeld => ?_)
          clear hK K hbz G9
          (try simp only [Act.put, List.setIfInBounds_toArray])
          refine wpAnyH_get 17 (some 32) (.agg #[.string u, .slice A1 el.length c1]) rfl rfl (by kernel_rfl) (by kernel_rfl) (by kernel_rfl) (fun _ _ _ h => h) (by rfl) hHeld ?_ ?_
          · (intro w hSw; (try dsimp only at hSw); go_simp; all_goals (try with_reducible rfl))
          simp only [Act.put]
          refine wpAnyH_ready (rs := [18]) (by kernel_rfl) (by simp) ?_
          refine AllReadyH.cons rfl (fun K hK => ?_) AllReadyH.nil
          go_simp
          have BZ28 : Below we.heap.size we (Z27.alloc (.cells #[.string u, .slice A1 el.length c1] 110)) := BZ27.alloc BZ27.size _
          have HNW := Lib.hid (cells_new Z27 110 [.string u, .slice A1 el.length c1])
          have hA1 := hA1.alloc (.cells #[.string u, .slice A1 el.length c1] 110)
          refine hK.out _ _ ⟨keep_cell BZ28 a1, keep_cell BZ28 k0, keep_cell BZ28 k1, keep_cell BZ28 k2, keep_cell BZ28 k3, keep_cell BZ28 k4⟩ (fun hHeld => ?_)
          clear hK K
          (try simp only [Act.put, List.setIfInBounds_toArray, List.set_cons_zero, List.set_cons_succ])
          have hzz : we.heap.size ≤ Z27.heap.size := BZ27.size
          have hz1 : (Z27.alloc (.cells #[.string u, .slice A1 el.length c1] 110)).heap.size = Z27.heap.size + 1 := by simp
          generalize Z27.alloc (.cells [.string u, .slice A1 el.length c1].toArray 110) = Z28 at *
          generalize Z27.heap.size = g8 at *
          refine wpAnyH_ready (rs := [19]) (by kernel_rfl) (by simp) ?_
          refine AllReadyH.cons rfl (fun K hK => ?_) AllReadyH.nil
          have hownY := own_below HST.out.own BZ28 (Nat.le_refl _)
          refine step_append_lies _ (by rfl) _ _ 69 (by rfl) (w.heap.size + 3) 110 i0 _ 2 40 Tryz.underlying69 hi iz0 iz1 iz2 rfl (by decide) (.slice A tv.length c) tv.length (tv.flatMap TV.cells) (by simp [Act.eval]) hownY ⟨g8, 0, none⟩ 1 1 [.string u, .slice A1 el.length c1] (by simp [Act.eval]) rfl HNW.out (by simp [Value.oneCell']) (by omega) (by simp only [maxLen]; omega) (by omega) (by omega) (g8 + 1) hz1 ?_
          intro g cap w3 hown' hgrow _ _
          have K1 := Blk.grown (HST.out.b1.keep BZ28 HST.out.b1.lt) hgrow (own_blk_ne hownY (HST.out.b1.keep BZ28 HST.out.b1.lt) (by decide))
          have K2 := Blk.grown (HST.out.b2.keep BZ28 HST.out.b2.lt) hgrow (own_blk_ne hownY (HST.out.b2.keep BZ28 HST.out.b2.lt) (by decide))
          have K3 := Blk.grown (HST.out.b3.keep BZ28 HST.out.b3.lt) hgrow (own_blk_ne hownY (HST.out.b3.keep BZ28 HST.out.b3.lt) (by decide))
          have ho1 := own_blk_ne hownY (HST.out.b1.keep BZ28 HST.out.b1.lt) (by decide)
          have t0 := hgrow.cell (keep_cell BZ28 a1) ho1
          have t1 := hgrow.cell (keep_cell BZ28 k0) hoa
          have t2 := hgrow.cell (keep_cell BZ28 k1) hoa
          have t3 := hgrow.cell (keep_cell BZ28 k2) hoa
          have t4 := hgrow.cell (keep_cell BZ28 k3) hoa
          have t5 := hgrow.cell (keep_cell BZ28 k4) hoa
          refine hK.out _ _ ⟨t0, t1, t2, t3, t4, t5⟩ (fun hHeld => ?_)
          clear hK K
          (try simp only [Act.put, List.setIfInBounds_toArray])
          refine wpAnyH_get 20 (some 35) (.pointer (some ⟨w.heap.size + 1 + 1, 1, none⟩)) rfl rfl (by kernel_rfl) (by kernel_rfl) (by kernel_rfl) (fun _ _ _ h => h) (by rfl) hHeld ?_ ?_
          · (intro w hSw; (try dsimp only at hSw); go_simp; all_goals (try with_reducible rfl))
          simp only [Act.put]
          refine wpAnyH_ready (rs := [21]) (by kernel_rfl) (by simp) ?_
          refine AllReadyH.cons rfl (fun K hK => ?_) AllReadyH.nil
          obtain ⟨y0, y1, y2, y3⟩ := K3.two
          have HMY : Hid (∀ t ∈ tv, w3.ownsRow w.heap.size 3 1 (.slice t.adr t.exps.length t.cap) t.exps.length (t.exps.map vi)) := Lib.hid (fun t ht => (own_below (HST.out.mine t ht) BZ28 (Nat.le_refl _)).kept hgrow (own_ne (own_below (HST.out.mine t ht) BZ28 (Nat.le_refl _)) hownY (by decide)))
          have hA3 := hA1.kept hgrow (own_ne hA1 hownY (by decide))
          have hbG := Below.grown (below_all hbr BZ28) hgrow (by omega) (fun j hj => by have := (hownY.lt j hj).1; omega)
          go_simp
          refine hK.out _ _ ⟨FAR.out _ _ _ _ t0 f2, FAR.out _ _ _ _ t1 f3, FAR.out _ _ _ _ t2 f3, FAR.out _ _ _ _ t3 f3, FAR.out _ _ _ _ t4 f3, FAR.out _ _ _ _ t5 f3⟩ (fun hHeld => ?_)
          clear hK K
          (try simp only [Act.put, List.setIfInBounds_toArray, List.set_cons_zero, List.set_cons_succ])
          refine wpAnyH_done (by kernel_rfl) ?_ _
          clear t0 t1 t2 t3 t4 t5 y0 y1 y2 y3
          go_wp2
          go_roundw
          case rel =>
            refine ⟨k + 1, some ⟨g, 0, none⟩, cap, tv ++ [⟨u, A1, c1, el⟩], by go_num, by omega, Lib.hid ⟨?_, ?_, ?_, ?_, ?_, ?_, ?_⟩⟩
            · rw [HPL.out, List.map_append, HST.out.pl]; rfl
            · exact below_far hbG (by omega) _ _
            · exact K1.far (by show w.heap.size ≠ w.heap.size + 1 + 1; omega) _
            · exact K2.far (by show w.heap.size + 1 ≠ w.heap.size + 1 + 1; omega) _
            · rw [List.length_append]; exact K3.set 1 _
            · rw [List.length_append, List.flatMap_append]; exact own_far hown' (own_blk_ne hown' K3 (by decide)) _
            · intro t ht
              rcases List.mem_append.1 ht with h | h
              · exact own_far (HMY.out t h) (own_blk_ne (HMY.out t h) K3 (by decide)) _
              · rw [List.mem_singleton.1 h]
                exact own_far hA3 (own_blk_ne hA3 K3 (by decide)) _
          case measure => simp [intOf]; omega
        · go_simp
          refine (HTX.out _ BZ24).mono ?_
          rintro e Z29 ⟨rfl, hbz⟩
          (try go_simp)
          have BZ29 := below_all BZ24 hbz
          have G9 := G9.keep hbz G9.lt
          refine hK.out _ _ ⟨keep_cell BZ29 a1, keep_cell BZ29 k0, keep_cell BZ29 k1, keep_cell BZ29 k2, keep_cell BZ29 k3, keep_cell BZ29 k4⟩ (fun hHeld => ?_)
          clear hK K hbz
          (try simp only [Act.put, List.setIfInBounds_toArray, List.set_cons_zero, List.set_cons_succ])
          refine wpAnyH_ready (rs := [1, 16]) (by kernel_rfl) (by simp) ?_
          refine AllReadyH.cons rfl (fun K hK => ?_) (AllReadyH.cons rfl (fun K hK => ?_) AllReadyH.nil)
          · have bz := keep_cell BZ29 b1
            go_simp
            refine hK.out _ _ ⟨keep_cell BZ29 a1, keep_cell BZ29 k0, keep_cell BZ29 k1, keep_cell BZ29 k2, keep_cell BZ29 k3, keep_cell BZ29 k4⟩ (fun hHeld => ?_)
            clear hK K bz
            (try simp only [Act.put, List.setIfInBounds_toArray, List.set_cons_zero, List.set_cons_succ])
            refine wpAnyH_ready (rs := [16]) (by kernel_rfl) (by simp) ?_
            refine AllReadyH.cons rfl (fun K hK => ?_) AllReadyH.nil
            refine step_clone (by rfl) _ _ (by rfl) g9 w.heap.size (by simp [Act.eval]) G9 (by omega) E ce el (by simp [Act.eval]) (HIK.out.keep BZ29) (by omega) ?_
            intro A1 c1 Z31 hA1 hbz
            have BZ31 : Below we.heap.size we Z31 := BZ29.trans (hbz.mono hg9)
            refine hK.out _ _ ⟨keep_cell BZ31 a1, keep_cell BZ31 k0, keep_cell BZ31 k1, keep_cell BZ31 k2, keep_cell BZ31 k3, keep_cell BZ31 k4⟩ (fun hHeld => ?_)
            clear hK K hbz G9
            (try simp only [Act.put, List.setIfInBounds_toArray])
            refine wpAnyH_get 17 (some 32) (.agg #[.string u, .slice A1 el.length c1]) rfl rfl (by kernel_rfl) (by kernel_rfl) (by kernel_rfl) (fun _ _ _ h => h) (by rfl) hHeld ?_ ?_
            · (intro w hSw; (try dsimp only at hSw); go_simp; all_goals (try with_reducible rfl))
            simp only [Act.put]
            refine wpAnyH_ready (rs := [18]) (by kernel_rfl) (by simp) ?_
            refine AllReadyH.cons rfl (fun K hK => ?_) AllReadyH.nil
            go_simp
            have BZ32 : Below we.heap.size we (Z31.alloc (.cells #[.string u, .slice A1 el.length c1] 110)) := BZ31.alloc BZ31.size _
            have HNW := Lib.hid (cells_new Z31 110 [.string u, .slice A1 el.length c1])
            have hA1 := hA1.alloc (.cells #[.string u, .slice A1 el.length c1] 110)
            refine hK.out _ _ ⟨keep_cell BZ32 a1, keep_cell BZ32 k0, keep_cell BZ32 k1, keep_cell BZ32 k2, keep_cell BZ32 k3, keep_cell BZ32 k4⟩ (fun hHeld => ?_)
            clear hK K
            (try simp only [Act.put, List.setIfInBounds_toArray, List.set_cons_zero, List.set_cons_succ])
            have hzz : we.heap.size ≤ Z31.heap.size := BZ31.size
            have hz1 : (Z31.alloc (.cells #[.string u, .slice A1 el.length c1] 110)).heap.size = Z31.heap.size + 1 := by simp
            generalize Z31.alloc (.cells [.string u, .slice A1 el.length c1].toArray 110) = Z32 at *
            generalize Z31.heap.size = g8 at *
            refine wpAnyH_ready (rs := [19]) (by kernel_rfl) (by simp) ?_
            refine AllReadyH.cons rfl (fun K hK => ?_) AllReadyH.nil
            have hownY := own_below HST.out.own BZ32 (Nat.le_refl _)
            refine step_append_lies _ (by rfl) _ _ 69 (by rfl) (w.heap.size + 3) 110 i0 _ 2 40 Tryz.underlying69 hi iz0 iz1 iz2 rfl (by decide) (.slice A tv.length c) tv.length (tv.flatMap TV.cells) (by simp [Act.eval]) hownY ⟨g8, 0, none⟩ 1 1 [.string u, .slice A1 el.length c1] (by simp [Act.eval]) rfl HNW.out (by simp [Value.oneCell']) (by omega) (by simp only [maxLen]; omega) (by omega) (by omega) (g8 + 1) hz1 ?_
            intro g cap w3 hown' hgrow _ _
            have K1 := Blk.grown (HST.out.b1.keep BZ32 HST.out.b1.lt) hgrow (own_blk_ne hownY (HST.out.b1.keep BZ32 HST.out.b1.lt) (by decide))
            have K2 := Blk.grown (HST.out.b2.keep BZ32 HST.out.b2.lt) hgrow (own_blk_ne hownY (HST.out.b2.keep BZ32 HST.out.b2.lt) (by decide))
            have K3 := Blk.grown (HST.out.b3.keep BZ32 HST.out.b3.lt) hgrow (own_blk_ne hownY (HST.out.b3.keep BZ32 HST.out.b3.lt) (by decide))
            have ho1 := own_blk_ne hownY (HST.out.b1.keep BZ32 HST.out.b1.lt) (by decide)
            have t0 := hgrow.cell (keep_cell BZ32 a1) ho1
            have t1 := hgrow.cell (keep_cell BZ32 k0) hoa
            have t2 := hgrow.cell (keep_cell BZ32 k1) hoa
            have t3 := hgrow.cell (keep_cell BZ32 k2) hoa
            have t4 := hgrow.cell (keep_cell BZ32 k3) hoa
            have t5 := hgrow.cell (keep_cell BZ32 k4) hoa
            refine hK.out _ _ ⟨t0, t1, t2, t3, t4, t5⟩ (fun hHeld => ?_)
            clear hK K
            (try simp only [Act.put, List.setIfInBounds_toArray])
            refine wpAnyH_get 20 (some 35) (.pointer (some ⟨w.heap.size + 1 + 1, 1, none⟩)) rfl rfl (by kernel_rfl) (by kernel_rfl) (by kernel_rfl) (fun _ _ _ h => h) (by rfl) hHeld ?_ ?_
            · (intro w hSw; (try dsimp only at hSw); go_simp; all_goals (try with_reducible rfl))
            simp only [Act.put]
            refine wpAnyH_ready (rs := [21]) (by kernel_rfl) (by simp) ?_
            refine AllReadyH.cons rfl (fun K hK => ?_) AllReadyH.nil
            obtain ⟨y0, y1, y2, y3⟩ := K3.two
            have HMY : Hid (∀ t ∈ tv, w3.ownsRow w.heap.size 3 1 (.slice t.adr t.exps.length t.cap) t.exps.length (t.exps.map vi)) := Lib.hid (fun t ht => (own_below (HST.out.mine t ht) BZ32 (Nat.le_refl _)).kept hgrow (own_ne (own_below (HST.out.mine t ht) BZ32 (Nat.le_refl _)) hownY (by decide)))
            have hA3 := hA1.kept hgrow (own_ne hA1 hownY (by decide))
            have hbG := Below.grown (below_all hbr BZ32) hgrow (by omega) (fun j hj => by have := (hownY.lt j hj).1; omega)
            go_simp
            refine hK.out _ _ ⟨FAR.out _ _ _ _ t0 f2, FAR.out _ _ _ _ t1 f3, FAR.out _ _ _ _ t2 f3, FAR.out _ _ _ _ t3 f3, FAR.out _ _ _ _ t4 f3, FAR.out _ _ _ _ t5 f3⟩ (fun hHeld => ?_)
            clear hK K
            (try simp only [Act.put, List.setIfInBounds_toArray, List.set_cons_zero, List.set_cons_succ])
            refine wpAnyH_done (by kernel_rfl) ?_ _
            clear t0 t1 t2 t3 t4 t5 y0 y1 y2 y3
            go_wp2
            go_roundw
            case rel =>
              refine ⟨k + 1, some ⟨g, 0, none⟩, cap, tv ++ [⟨u, A1, c1, el⟩], by go_num, by omega, Lib.hid ⟨?_, ?_, ?_, ?_, ?_, ?_, ?_⟩⟩
              · rw [HPL.out, List.map_append, HST.out.pl]; rfl
              · exact below_far hbG (by omega) _ _
              · exact K1.far (by show w.heap.size ≠ w.heap.size + 1 + 1; omega) _
              · exact K2.far (by show w.heap.size + 1 ≠ w.heap.size + 1 + 1; omega) _
              · rw [List.length_append]; exact K3.set 1 _
              · rw [List.length_append, List.flatMap_append]; exact own_far hown' (own_blk_ne hown' K3 (by decide)) _
              · intro t ht
                rcases List.mem_append.1 ht with h | h
                · exact own_far (HMY.out t h) (own_blk_ne (HMY.out t h) K3 (by decide)) _
                · rw [List.mem_singleton.1 h]
                  exact own_far hA3 (own_blk_ne hA3 K3 (by decide)) _
            case measure => simp [intOf]; omega
          · refine step_clone (by rfl) _ _ (by rfl) g9 w.heap.size (by simp [Act.eval]) G9 (by omega) E ce el (by simp [Act.eval]) (HIK.out.keep BZ29) (by omega) ?_
            intro A1 c1 Z33 hA1 hbz
            have BZ33 : Below we.heap.size we Z33 := BZ29.trans (hbz.mono hg9)
            refine hK.out _ _ ⟨keep_cell BZ33 a1, keep_cell BZ33 k0, keep_cell BZ33 k1, keep_cell BZ33 k2, keep_cell BZ33 k3, keep_cell BZ33 k4⟩ (fun hHeld => ?_)
            clear hK K hbz G9
            (try simp only [Act.put, List.setIfInBounds_toArray])
            refine wpAnyH_get 17 (some 32) (.agg #[.string u, .slice A1 el.length c1]) rfl rfl (by kernel_rfl) (by kernel_rfl) (by kernel_rfl) (fun _ _ _ h => h) (by rfl) hHeld ?_ ?_
            · (intro w hSw; (try dsimp only at hSw); go_simp; all_goals (try with_reducible rfl))
            simp only [Act.put]
            refine wpAnyH_ready (rs := [1, 18]) (by kernel_rfl) (by simp) ?_
            refine AllReadyH.cons rfl (fun K hK => ?_) (AllReadyH.cons rfl (fun K hK => ?_) AllReadyH.nil)
            · have bz := keep_cell BZ33 b1
              go_simp
              refine hK.out _ _ ⟨keep_cell BZ33 a1, keep_cell BZ33 k0, keep_cell BZ33 k1, keep_cell BZ33 k2, keep_cell BZ33 k3, keep_cell BZ33 k4⟩ (fun hHeld => ?_)
              clear hK K bz
              (try simp only [Act.put, List.setIfInBounds_toArray, List.set_cons_zero, List.set_cons_succ])
              refine wpAnyH_ready (rs := [18]) (by kernel_rfl) (by simp) ?_
              refine AllReadyH.cons rfl (fun K hK => ?_) AllReadyH.nil
              go_simp
              have BZ35 : Below we.heap.size we (Z33.alloc (.cells #[.string u, .slice A1 el.length c1] 110)) := BZ33.alloc BZ33.size _
              have HNW := Lib.hid (cells_new Z33 110 [.string u, .slice A1 el.length c1])
              have hA1 := hA1.alloc (.cells #[.string u, .slice A1 el.length c1] 110)
              refine hK.out _ _ ⟨keep_cell BZ35 a1, keep_cell BZ35 k0, keep_cell BZ35 k1, keep_cell BZ35 k2, keep_cell BZ35 k3, keep_cell BZ35 k4⟩ (fun hHeld => ?_)
              clear hK K
              (try simp only [Act.put, List.setIfInBounds_toArray, List.set_cons_zero, List.set_cons_succ])
              have hzz : we.heap.size ≤ Z33.heap.size := BZ33.size
              have hz1 : (Z33.alloc (.cells #[.string u, .slice A1 el.length c1] 110)).heap.size = Z33.heap.size + 1 := by simp
              generalize Z33.alloc (.cells [.string u, .slice A1 el.length c1].toArray 110) = Z35 at *
              generalize Z33.heap.size = g8 at *
              refine wpAnyH_ready (rs := [19]) (by kernel_rfl) (by simp) ?_
              refine AllReadyH.cons rfl (fun K hK => ?_) AllReadyH.nil
              have hownY := own_below HST.out.own BZ35 (Nat.le_refl _)
              refine step_append_lies _ (by rfl) _ _ 69 (by rfl) (w.heap.size + 3) 110 i0 _ 2 40 Tryz.underlying69 hi iz0 iz1 iz2 rfl (by decide) (.slice A tv.length c) tv.length (tv.flatMap TV.cells) (by simp [Act.eval]) hownY ⟨g8, 0, none⟩ 1 1 [.string u, .slice A1 el.length c1] (by simp [Act.eval]) rfl HNW.out (by simp [Value.oneCell']) (by omega) (by simp only [maxLen]; omega) (by omega) (by omega) (g8 + 1) hz1 ?_
              intro g cap w3 hown' hgrow _ _
              have K1 := Blk.grown (HST.out.b1.keep BZ35 HST.out.b1.lt) hgrow (own_blk_ne hownY (HST.out.b1.keep BZ35 HST.out.b1.lt) (by decide))
              have K2 := Blk.grown (HST.out.b2.keep BZ35 HST.out.b2.lt) hgrow (own_blk_ne hownY (HST.out.b2.keep BZ35 HST.out.b2.lt) (by decide))
              have K3 := Blk.grown (HST.out.b3.keep BZ35 HST.out.b3.lt) hgrow (own_blk_ne hownY (HST.out.b3.keep BZ35 HST.out.b3.lt) (by decide))
              have ho1 := own_blk_ne hownY (HST.out.b1.keep BZ35 HST.out.b1.lt) (by decide)
              have t0 := hgrow.cell (keep_cell BZ35 a1) ho1
              have t1 := hgrow.cell (keep_cell BZ35 k0) hoa
              have t2 := hgrow.cell (keep_cell BZ35 k1) hoa
              have t3 := hgrow.cell (keep_cell BZ35 k2) hoa
              have t4 := hgrow.cell (keep_cell BZ35 k3) hoa
              have t5 := hgrow.cell (keep_cell BZ35 k4) hoa
              refine hK.out _ _ ⟨t0, t1, t2, t3, t4, t5⟩ (fun hHeld => ?_)
              clear hK K
              (try simp only [Act.put, List.setIfInBounds_toArray])
              refine wpAnyH_get 20 (some 35) (.pointer (some ⟨w.heap.size + 1 + 1, 1, none⟩)) rfl rfl (by kernel_rfl) (by kernel_rfl) (by kernel_rfl) (fun _ _ _ h => h) (by rfl) hHeld ?_ ?_
              · (intro w hSw; (try dsimp only at hSw); go_simp; all_goals (try with_reducible rfl))
              simp only [Act.put]
              refine wpAnyH_ready (rs := [21]) (by kernel_rfl) (by simp) ?_
              refine AllReadyH.cons rfl (fun K hK => ?_) AllReadyH.nil
              obtain ⟨y0, y1, y2, y3⟩ := K3.two
              have HMY : Hid (∀ t ∈ tv, w3.ownsRow w.heap.size 3 1 (.slice t.adr t.exps.length t.cap) t.exps.length (t.exps.map vi)) := Lib.hid (fun t ht => (own_below (HST.out.mine t ht) BZ35 (Nat.le_refl _)).kept hgrow (own_ne (own_below (HST.out.mine t ht) BZ35 (Nat.le_refl _)) hownY (by decide)))
              have hA3 := hA1.kept hgrow (own_ne hA1 hownY (by decide))
              have hbG := Below.grown (below_all hbr BZ35) hgrow (by omega) (fun j hj => by have := (hownY.lt j hj).1; omega)
              go_simp
              refine hK.out _ _ ⟨FAR.out _ _ _ _ t0 f2, FAR.out _ _ _ _ t1 f3, FAR.out _ _ _ _ t2 f3, FAR.out _ _ _ _ t3 f3, FAR.out _ _ _ _ t4 f3, FAR.out _ _ _ _ t5 f3⟩ (fun hHeld => ?_)
              clear hK K
              (try simp only [Act.put, List.setIfInBounds_toArray, List.set_cons_zero, List.set_cons_succ])
              refine wpAnyH_done (by kernel_rfl) ?_ _
              clear t0 t1 t2 t3 t4 t5 y0 y1 y2 y3
              go_wp2
              go_roundw
              case rel =>
                refine ⟨k + 1, some ⟨g, 0, none⟩, cap, tv ++ [⟨u, A1, c1, el⟩], by go_num, by omega, Lib.hid ⟨?_, ?_, ?_, ?_, ?_, ?_, ?_⟩⟩
                · rw [HPL.out, List.map_append, HST.out.pl]; rfl
                · exact below_far hbG (by omega) _ _
                · exact K1.far (by show w.heap.size ≠ w.heap.size + 1 + 1; omega) _
                · exact K2.far (by show w.heap.size + 1 ≠ w.heap.size + 1 + 1; omega) _
                · rw [List.length_append]; exact K3.set 1 _
                · rw [List.length_append, List.flatMap_append]; exact own_far hown' (own_blk_ne hown' K3 (by decide)) _
                · intro t ht
                  rcases List.mem_append.1 ht with h | h
                  · exact own_far (HMY.out t h) (own_blk_ne (HMY.out t h) K3 (by decide)) _
                  · rw [List.mem_singleton.1 h]
                    exact own_far hA3 (own_blk_ne hA3 K3 (by decide)) _
              case measure => simp [intOf]; omega
            · go_simp
              have BZ36 : Below we.heap.size we (Z33.alloc (.cells #[.string u, .slice A1 el.length c1] 110)) := BZ33.alloc BZ33.size _
              have HNW := Lib.hid (cells_new Z33 110 [.string u, .slice A1 el.length c1])
              have hA1 := hA1.alloc (.cells #[.string u, .slice A1 el.length c1] 110)
              refine hK.out _ _ ⟨keep_cell BZ36 a1, keep_cell BZ36 k0, keep_cell BZ36 k1, keep_cell BZ36 k2, keep_cell BZ36 k3, keep_cell BZ36 k4⟩ (fun hHeld => ?_)
              clear hK K
              (try simp only [Act.put, List.setIfInBounds_toArray, List.set_cons_zero, List.set_cons_succ])
              have hzz : we.heap.size ≤ Z33.heap.size := BZ33.size
              have hz1 : (Z33.alloc (.cells #[.string u, .slice A1 el.length c1] 110)).heap.size = Z33.heap.size + 1 := by simp
              generalize Z33.alloc (.cells [.string u, .slice A1 el.length c1].toArray 110) = Z36 at *
              generalize Z33.heap.size = g8 at *
              refine wpAnyH_ready (rs := [1]) (by kernel_rfl) (by simp) ?_
              refine AllReadyH.cons rfl (fun K hK => ?_) AllReadyH.nil
              have bz := keep_cell BZ36 b1
              go_simp
              refine hK.out _ _ ⟨keep_cell BZ36 a1, keep_cell BZ36 k0, keep_cell BZ36 k1, keep_cell BZ36 k2, keep_cell BZ36 k3, keep_cell BZ36 k4⟩ (fun hHeld => ?_)
              clear hK K bz
              (try simp only [Act.put, List.setIfInBounds_toArray, List.set_cons_zero, List.set_cons_succ])
              refine wpAnyH_ready (rs := [19]) (by kernel_rfl) (by simp) ?_
              refine AllReadyH.cons rfl (fun K hK => ?_) AllReadyH.nil
              have hownY := own_below HST.out.own BZ36 (Nat.le_refl _)
              refine step_append_lies _ (by rfl) _ _ 69 (by rfl) (w.heap.size + 3) 110 i0 _ 2 40 Tryz.underlying69 hi iz0 iz1 iz2 rfl (by decide) (.slice A tv.length c) tv.length (tv.flatMap TV.cells) (by simp [Act.eval]) hownY ⟨g8, 0, none⟩ 1 1 [.string u, .slice A1 el.length c1] (by simp [Act.eval]) rfl HNW.out (by simp [Value.oneCell']) (by omega) (by simp only [maxLen]; omega) (by omega) (by omega) (g8 + 1) hz1 ?_
              intro g cap w3 hown' hgrow _ _
              have K1 := Blk.grown (HST.out.b1.keep BZ36 HST.out.b1.lt) hgrow (own_blk_ne hownY (HST.out.b1.keep BZ36 HST.out.b1.lt) (by decide))
              have K2 := Blk.grown (HST.out.b2.keep BZ36 HST.out.b2.lt) hgrow (own_blk_ne hownY (HST.out.b2.keep BZ36 HST.out.b2.lt) (by decide))
              have K3 := Blk.grown (HST.out.b3.keep BZ36 HST.out.b3.lt) hgrow (own_blk_ne hownY (HST.out.b3.keep BZ36 HST.out.b3.lt) (by decide))
              have ho1 := own_blk_ne hownY (HST.out.b1.keep BZ36 HST.out.b1.lt) (by decide)
              have t0 := hgrow.cell (keep_cell BZ36 a1) ho1
              have t1 := hgrow.cell (keep_cell BZ36 k0) hoa
              have t2 := hgrow.cell (keep_cell BZ36 k1) hoa
              have t3 := hgrow.cell (keep_cell BZ36 k2) hoa
              have t4 := hgrow.cell (keep_cell BZ36 k3) hoa
              have t5 := hgrow.cell (keep_cell BZ36 k4) hoa
              refine hK.out _ _ ⟨t0, t1, t2, t3, t4, t5⟩ (fun hHeld => ?_)
              clear hK K
              (try simp only [Act.put, List.setIfInBounds_toArray])
              refine wpAnyH_get 20 (some 35) (.pointer (some ⟨w.heap.size + 1 + 1, 1, none⟩)) rfl rfl (by kernel_rfl) (by kernel_rfl) (by kernel_rfl) (fun _ _ _ h => h) (by rfl) hHeld ?_ ?_
              · (intro w hSw; (try dsimp only at hSw); go_simp; all_goals (try with_reducible rfl))
              simp only [Act.put]
              refine wpAnyH_ready (rs := [21]) (by kernel_rfl) (by simp) ?_
              refine AllReadyH.cons rfl (fun K hK => ?_) AllReadyH.nil
              obtain ⟨y0, y1, y2, y3⟩ := K3.two
              have HMY : Hid (∀ t ∈ tv, w3.ownsRow w.heap.size 3 1 (.slice t.adr t.exps.length t.cap) t.exps.length (t.exps.map vi)) := Lib.hid (fun t ht => (own_below (HST.out.mine t ht) BZ36 (Nat.le_refl _)).kept hgrow (own_ne (own_below (HST.out.mine t ht) BZ36 (Nat.le_refl _)) hownY (by decide)))
              have hA3 := hA1.kept hgrow (own_ne hA1 hownY (by decide))
              have hbG := Below.grown (below_all hbr BZ36) hgrow (by omega) (fun j hj => by have := (hownY.lt j hj).1; omega)
              go_simp
              refine hK.out _ _ ⟨FAR.out _ _ _ _ t0 f2, FAR.out _ _ _ _ t1 f3, FAR.out _ _ _ _ t2 f3, FAR.out _ _ _ _ t3 f3, FAR.out _ _ _ _ t4 f3, FAR.out _ _ _ _ t5 f3⟩ (fun hHeld => ?_)
              clear hK K
              (try simp only [Act.put, List.setIfInBounds_toArray, List.set_cons_zero, List.set_cons_succ])
              refine wpAnyH_done (by kernel_rfl) ?_ _
              clear t0 t1 t2 t3 t4 t5 y0 y1 y2 y3
              go_wp2
              go_roundw
              case rel =>
                refine ⟨k + 1, some ⟨g, 0, none⟩, cap, tv ++ [⟨u, A1, c1, el⟩], by go_num, by omega, Lib.hid ⟨?_, ?_, ?_, ?_, ?_, ?_, ?_⟩⟩
                · rw [HPL.out, List.map_append, HST.out.pl]; rfl
                · exact below_far hbG (by omega) _ _
                · exact K1.far (by show w.heap.size ≠ w.heap.size + 1 + 1; omega) _
                · exact K2.far (by show w.heap.size + 1 ≠ w.heap.size + 1 + 1; omega) _
                · rw [List.length_append]; exact K3.set 1 _
                · rw [List.length_append, List.flatMap_append]; exact own_far hown' (own_blk_ne hown' K3 (by decide)) _
                · intro t ht
                  rcases List.mem_append.1 ht with h | h
                  · exact own_far (HMY.out t h) (own_blk_ne (HMY.out t h) K3 (by decide)) _
                  · rw [List.mem_singleton.1 h]
                    exact own_far hA3 (own_blk_ne hA3 K3 (by decide)) _
              case measure => simp [intOf]; omega
    · obtain rfl : k = ts.length := by omega
      have hpl := HST.out.pl
      rw [List.take_of_length_le (by unfold wrPl; rw [List.length_zipWith]; omega)] at hpl
      have HPL := Lib.hid hpl
      clear hpl
      obtain ⟨b0, b1, b2, b3⟩ := HST.out.b3.two
      obtain ⟨d0, d1, d2, d3⟩ := HST.out.b2.two
      have hz4 := HST.out.b2.lt
      have HTA : Hid (∀ W', But (w.heap.size + 1) we W' → OwnTerms w.heap.size W' A c tv) := Lib.hid (fun W' hBut => ⟨own_base (hBut.own HST.out.own (own_blk_ne HST.out.own HST.out.b2 (by decide))) (by omega), fun t ht => hBut.own (HST.out.mine t ht) (own_blk_ne (HST.out.mine t ht) HST.out.b2 (by decide))⟩)
      go_wp2
      refine bodyPost_ret (v := .agg #[.int .i64 v, .slice A tv.length c]) (by simp [results, Tryz.results30, go_sem, d0, d1]) rfl ⟨?_, A, c, tv, rfl, HTA.out _ ⟨fun B w0 hb hg => below_far (below_far hb hg _ _) hg _ _, fun g t cs hne hb => (hb.far hne _).far hne _⟩, HPL.out⟩
      exact below_far (below_far hbr (by omega) _ _) (by omega) _ _
end Go.Proofs.Tg
end
