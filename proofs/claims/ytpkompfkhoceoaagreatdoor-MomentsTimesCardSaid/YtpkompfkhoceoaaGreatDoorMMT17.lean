/- Parts of the proof: FN4, FN5, SK1. -/
import Derived.Deep.AppendLies
import Derived.Deep.RegionHeld3
import Derived.Test.YtpkompfkhoceoaaGreatDoorMMT1
import Derived.Test.YtpkompfkhoceoaaGreatDoorMMT7
import Derived.Test.YtpkompfkhoceoaaGreatDoorMMT8
import Derived.Test.YtpkompfkhoceoaaGreatDoorMMT12
import Derived.Test.YtpkompfkhoceoaaGreatDoorMMT15
import Derived.Test.YtpkompfkhoceoaaGreatDoorMMT16
section
/- The reference's sum of one term. -/
namespace Go.Proofs.Tg.Sx
open Go.RowKit Go.Gr Go.Sp Go.Ev Go.Mo Go.Bn
set_option maxHeartbeats 4000000
set_option maxRecDepth 100000
theorem sorted_one (A : Option Addr) (c : Nat) (w : World) : Calls Tryz.prog 87 #[.slice A 1 c] w fun e w' => e = .returned (.slice A 1 c) ∧ w = w' := by
  go_enter Tryz.func87, Tryz.ntmps87
  go_wp2
  go_ret
  exact ⟨rfl, rfl⟩
end Go.Proofs.Tg.Sx
end
section
/- The reference's sum of one term, walked (printed by wip/tools/mk_sum1.py). -/
namespace Go.Proofs.Tg.Sx
open Go.RowKit Go.Gr Go.Sp Go.Ev Go.Mo Go.Bn Go.Qn
set_option maxHeartbeats 8000000
set_option maxRecDepth 100000
theorem rt5_info : (Tryz.prog.info? 99).map (fun i => (i.zero, i.size, i.bytes)) = some (some (.agg #[.bool false, .slice none 0 0, .bool false, .slice none 0 0, .slice none 0 0]), 5, 88) := by kernel_rfl
theorem rt5_at {w : World} {T : Option Addr} {ts : List RT} (h : Sl w T ts.length 5 (ts.flatMap RT.cells)) {k : Nat} (hk : k < ts.length) :
    ∃ ad, T = some ad ∧ ad.block < w.heap.size ∧ w.cell? (ad.add (k * 5)) = some ts[k].c0 ∧ w.cell? ⟨(ad.add (k * 5)).block, (ad.add (k * 5)).off + 1, none⟩ = some ts[k].c1 ∧ w.cell? ⟨(ad.add (k * 5)).block, (ad.add (k * 5)).off + 2, none⟩ = some ts[k].c2 ∧
      w.cell? ⟨(ad.add (k * 5)).block, (ad.add (k * 5)).off + 3, none⟩ = some ts[k].c3 ∧ w.cell? ⟨(ad.add (k * 5)).block, (ad.add (k * 5)).off + 4, none⟩ = some (.slice ts[k].adr ts[k].exps.length ts[k].cap) := by
  obtain ⟨ad, rfl, hlt, ha⟩ := h.lies (by omega)
  have off : ∀ i, (⟨(ad.add (k * 5)).block, (ad.add (k * 5)).off + (i + 1), none⟩ : Addr) = ad.add (k * 5 + (i + 1)) := fun i => by rw [← add_add]; simp [Addr.add]
  have g := fun j hj => flat_get RT.cells 5 (fun _ => rfl) ts k j hk hj
  refine ⟨ad, rfl, hlt, ha _ _ ?_, (congrArg w.cell? (off 0)).trans (ha _ _ ?_), (congrArg w.cell? (off 1)).trans (ha _ _ ?_), (congrArg w.cell? (off 2)).trans (ha _ _ ?_), (congrArg w.cell? (off 3)).trans (ha _ _ ?_)⟩
  · have := g 0 (by omega); rw [Nat.add_zero] at this; exact this
  · exact g 1 (by omega)
  · exact g 2 (by omega)
  · exact g 3 (by omega)
  · exact g 4 (by omega)
/-- A term with the coefficient one. -/
def one1 (A : Option Addr) (ca : Nat) (E : Option Addr) (ce : Nat) (el : List Int) : RT := ⟨.bool false, .slice A 1 ca, .bool false, .slice none 0 0, E, ce, el⟩
/-- What Sum's loop holds. -/
structure SmSt (w : World) (V : Int) (t : RT) (wr : World) (k : Nat) (R : Option Addr) (c : Nat) : Prop where
  below : Below w.heap.size w wr
  b4 : Blk wr w.heap.size 65 #[.int .i64 0, .slice none 0 0]
  b6 : Blk wr (w.heap.size + 1) 65 #[.int .i64 V, .slice R k c]
  own : wr.ownsRow (w.heap.size + 2) 99 5 (.slice R k c) k ((List.replicate k t).flatMap RT.cells)
theorem SmSt.keep {w wr wz : World} {V : Int} {t : RT} {k c : Nat} {R : Option Addr} (h : SmSt w V t wr k R c) (hb : Below wr.heap.size wr wz) : SmSt w V t wz k R c :=
  ⟨below_all h.below hb, h.b4.keep hb h.b4.lt, h.b6.keep hb h.b6.lt, own_below h.own hb (Nat.le_refl _)⟩
theorem rsum1_any (V : Int) (L : Option Addr) (cL : Nat) (A : Option Addr) (ca : Nat) (E : Option Addr) (ce : Nat) (el : List Int) (w : World) (hL : Sl w L 1 5 (one1 A ca E ce el).cells) :
    Calls Tryz.prog 51 #[.int .i64 V, .slice L 1 cL] w fun e w' => ∃ R c, e = .returned (.agg #[.int .i64 V, .slice R 1 c]) ∧ w'.ownsRow w.heap.size 99 5 (.slice R 1 c) 1 (one1 A ca E ce el).cells ∧ Below w.heap.size w w' := by
  have hL1 : Sl w L ([one1 A ca E ce el]).length 5 (([one1 A ca E ce el]).flatMap RT.cells) := by simpa using hL
  obtain ⟨od, rfl, hob, k0, k1, k2, k3, k4⟩ := rt5_at hL1 (k := 0) (by simp)
  have HT : Hid ((one1 A ca E ce el).cells = [.bool false, .slice A 1 ca, .bool false, .slice none 0 0, .slice E el.length ce]) := Lib.hid rfl
  have c0 : w.cell? (od.add (0 * 5)) = some (.bool false) := k0
  have c1 : w.cell? ⟨(od.add (0 * 5)).block, (od.add (0 * 5)).off + 1, none⟩ = some (.slice A 1 ca) := k1
  have c2 : w.cell? ⟨(od.add (0 * 5)).block, (od.add (0 * 5)).off + 2, none⟩ = some (.bool false) := k2
  have c3 : w.cell? ⟨(od.add (0 * 5)).block, (od.add (0 * 5)).off + 3, none⟩ = some (.slice none 0 0) := k3
  have c4 : w.cell? ⟨(od.add (0 * 5)).block, (od.add (0 * 5)).off + 4, none⟩ = some (.slice E el.length ce) := k4
  have HC : Hid (∀ k : Nat, k < 1 → w.cell? (od.add (k * 5)) = some (.bool false) ∧ w.cell? ⟨(od.add (k * 5)).block, (od.add (k * 5)).off + 1, none⟩ = some (.slice A 1 ca) ∧ w.cell? ⟨(od.add (k * 5)).block, (od.add (k * 5)).off + 2, none⟩ = some (.bool false) ∧ w.cell? ⟨(od.add (k * 5)).block, (od.add (k * 5)).off + 3, none⟩ = some (.slice none 0 0) ∧ w.cell? ⟨(od.add (k * 5)).block, (od.add (k * 5)).off + 4, none⟩ = some (.slice E el.length ce)) := Lib.hid (fun k hk => by
    obtain rfl : k = 0 := by omega
    exact ⟨c0, c1, c2, c3, c4⟩)
  clear k0 k1 k2 k3 k4 c0 c1 c2 c3 c4 hL hL1
  generalize one1 A ca E ce el = t at *
  obtain ⟨i0, hi, iz0, iz1, iz2⟩ := info_parts rt5_info
  obtain ⟨W, hW⟩ : ∃ W, (w.alloc (.cells #[.int .i64 0, .slice none 0 0] 65)).alloc (.cells #[.int .i64 V, .slice none 0 0] 65) = W := ⟨_, rfl⟩
  have B4 : Blk W w.heap.size 65 #[.int .i64 0, .slice none 0 0] := by rw [← hW]; exact (Blk.new _ _ _).alloc _
  have B6 : Blk W (w.heap.size + 1) 65 #[.int .i64 V, .slice none 0 0] := by
    rw [← hW]; have := Blk.new (w.alloc (.cells #[.int .i64 0, .slice none 0 0] 65)) 65 #[.int .i64 V, .slice none 0 0]
    simpa using this
  have hbW : Below w.heap.size w W := by rw [← hW]; exact ((Below.refl _ _).alloc (Nat.le_refl _) _).alloc (by simp) _
  have HWW := Lib.hid hW
  clear hW
  go_enter Tryz.func51, Tryz.ntmps51
  go_upto_region 3 with (go_at_call 87; refine (sorted_one _ _ _).mono ?_; rintro e w1 ⟨rfl, rfl⟩)
  rw [HWW.out]
  go_wp2
  go_loopw [7] (fun s7 wr => ∃ (k : Nat) (R : Option Addr) (c : Nat), s7 = .int .i64 k ∧ k ≤ 1 ∧ Hid (SmSt w V t wr k R c)) (fun s7 _ => 1 - (intOf s7).toNat)
  case atStart => exact ⟨0, none, 0, rfl, by omega, Lib.hid ⟨hbW, B4, B6, World.ownsRow_nil _ _ _ _⟩⟩
  case round =>
    clear B4 B6 hbW
    obtain ⟨wo, rfl⟩ : ∃ wo : World, wo = wr := ⟨_, rfl⟩
    obtain ⟨k, R, c, rfl, hk, HST⟩ := hrel
    have hbr := HST.out.below
    have hz : w.heap.size + 2 ≤ wo.heap.size := by have := HST.out.b6.lt; omega
    by_cases hlt : k < 1
    · obtain ⟨k0, k1, k2, k3, k4⟩ := HC.out k hlt
      have k0 := keep_cell hbr k0
      have k1 := keep_cell hbr k1
      have k2 := keep_cell hbr k2
      have k3 := keep_cell hbr k3
      have k4 := keep_cell hbr k4
      have q0 : (0 : Int) ≤ (k : Int) := by omega
      have q1 : (k : Int) < 1 := by omega
      have q3 : ((k : Int)).toNat = k := by omega
      have q4 : decide ((k : Int) + 1 < 1) = false := decide_eq_false (by omega)
      go_upto_region 6 with (fail)
      obtain ⟨W3, hW3⟩ : ∃ W3, wo.alloc (.cells #[.bool false, .slice A 1 ca, .bool false, .slice none 0 0] 52) = W3 := ⟨_, rfl⟩
      have F8 : Blk W3 wo.heap.size 52 #[.bool false, .slice A 1 ca, .bool false, .slice none 0 0] := by rw [← hW3]; exact Blk.new _ _ _
      have hbF : Below wo.heap.size wo W3 := by rw [← hW3]; exact (Below.refl _ _).alloc (Nat.le_refl _) _
      rw [hW3]
      have HS3 := Lib.hid (HST.out.keep hbF)
      clear hW3 k0 k1 k2 k3 k4
      go_wp2
      go_loopw [9] (fun s9 wr => s9 = .int .i64 ((k : Int) + 1) ∧ Below wo.heap.size wo wr ∧ Blk wr wo.heap.size 52 #[.bool false, .slice A 1 ca, .bool false, .slice none 0 0]) (fun _ _ => 0)
      case atStart => exact ⟨by go_num, hbF, F8⟩
      case round =>
        clear F8 hbF HS3
        obtain ⟨wi, rfl⟩ : ∃ wi : World, wi = wr := ⟨_, rfl⟩
        obtain ⟨rfl, hbi, F8⟩ := hrel
        go_upto_region 7 with (fail)
        go_quiet (fail)
        have hbd : Below wo.heap.size wo (wi.drewN nq) := below_all hbi (below_drewN (Below.refl _ _) _)
        have G8 : Blk (wi.drewN nq) wo.heap.size 52 #[.bool false, .slice A 1 ca, .bool false, .slice none 0 0] := F8.keep (below_drewN (Below.refl _ _) _) F8.lt
        generalize wi.drewN nq = wd at *
        clear F8 hbi
        obtain ⟨y0, y1, y2, y3, z0, z1, z2, z3⟩ := G8.four
        have HRS := Lib.hid (fun V => rsign_any false false A none 1 ca 0 0 V (by omega) 1 (by simp))
        go_upto_region 11 with (go_at_call 89; refine (HRS.out _).mono ?_; rintro e we ⟨rfl, hbs⟩)
        have H8 := G8.keep hbs G8.lt
        have hbe := below_all hbd hbs
        clear y0 y1 y2 y3 z0 z1 z2 z3 G8 hbd hbs HRS
        have HS4 := Lib.hid (HST.out.keep hbe)
        obtain ⟨y0, y1, y2, y3, _, _, _, _⟩ := H8.four
        obtain ⟨k0, k1, k2, k3, k4⟩ := HC.out k hlt
        have k4 := keep_cell (below_all hbr hbe) k4
        clear k0 k1 k2 k3
        have hz8 := H8.lt
        have f8 : wo.heap.size ≠ w.heap.size + 1 := by omega
        have f4 : (od.add (k * 5)).block ≠ w.heap.size + 1 := by rw [add_block]; omega
        have hoa : some (od.add (k * 5)).block ≠ (Value.slice R k c).ownBlock := fun e => by have := (HST.out.own.lt _ e.symm).1; rw [add_block] at this; omega
        have ho8 : some wo.heap.size ≠ (Value.slice R k c).ownBlock := fun e => by have := (HST.out.own.lt _ e.symm).2; omega
        have FAR : Hid (∀ (V : World) (p : Addr) (u u' : Value), V.cell? p = some u → p.block ≠ w.heap.size + 1 → (V.setCell ⟨w.heap.size + 1, 1, none⟩ u').cell? p = some u) := Lib.hid (fun V p u u' h hne => (World.cell?_setCell_other _ _ _ _ (fun e => hne (by rw [← e]))).trans h)
        have BZ : Below we.heap.size we we.drew := (Below.refl _ _).drew
        have hzw : wo.heap.size < we.heap.size := hz8
        clear H8
        refine wp_region_held_drew (S := (fun w' => w'.cell? ⟨wo.heap.size, 0, none⟩ = some (.bool false) ∧ w'.cell? ⟨wo.heap.size, 1, none⟩ = some (.slice A 1 ca) ∧ w'.cell? ⟨wo.heap.size, 2, none⟩ = some (.bool false) ∧ w'.cell? ⟨wo.heap.size, 3, none⟩ = some (.slice none 0 0) ∧ w'.cell? ⟨(od.add (k * 5)).block, (od.add (k * 5)).off + 4, none⟩ = some (.slice E el.length ce))) (by kernel_rfl) ⟨y0, y1, y2, y3, k4⟩ (fun hHeld => ?_)
        generalize we.drew = Z at *
        refine wpAnyH_get 0 (some 55) (.pointer (some ⟨w.heap.size + 1, 1, none⟩)) rfl rfl (by kernel_rfl) (by kernel_rfl) (by kernel_rfl) (fun _ _ _ h => h) (by rfl) hHeld ?_ ?_
        · (intro w hSw; (try dsimp only at hSw); go_simp; all_goals (try with_reducible rfl))
        simp only [Act.put, List.setIfInBounds_toArray, List.set_cons_zero, List.set_cons_succ]
        refine wpAnyH_get 2 (some 57) (.agg #[.bool false, .slice A 1 ca, .bool false, .slice none 0 0]) rfl rfl (by kernel_rfl) (by kernel_rfl) (by kernel_rfl) (fun _ _ _ h => h) (by rfl) hHeld ?_ ?_
        · (intro w hSw; (try dsimp only at hSw); go_simp; all_goals (try with_reducible rfl))
        simp only [Act.put, List.setIfInBounds_toArray, List.set_cons_zero, List.set_cons_succ]
        refine wpAnyH_get 3 (some 58) (.slice (some od) 1 cL) rfl rfl (by kernel_rfl) (by kernel_rfl) (by kernel_rfl) (fun _ _ _ h => h) (by rfl) hHeld ?_ ?_
        · (intro w hSw; (try dsimp only at hSw); go_simp; all_goals (try with_reducible rfl))
        simp only [Act.put, List.setIfInBounds_toArray, List.set_cons_zero, List.set_cons_succ]
        refine wpAnyH_get 4 (some 59) (.int .i64 k) rfl rfl (by kernel_rfl) (by kernel_rfl) (by kernel_rfl) (fun _ _ _ h => h) (by rfl) hHeld ?_ ?_
        · (intro w hSw; (try dsimp only at hSw); go_simp; all_goals (try with_reducible rfl))
        simp only [Act.put, List.setIfInBounds_toArray, List.set_cons_zero, List.set_cons_succ]
        refine wpAnyH_get 5 (some 60) (.pointer (some (od.add (k * 5)))) rfl rfl (by kernel_rfl) (by kernel_rfl) (by kernel_rfl) (fun _ _ _ h => h) (by rfl) hHeld ?_ ?_
        · (intro w hSw; (try dsimp only at hSw); go_simp; all_goals (try with_reducible rfl))
        simp only [Act.put, List.setIfInBounds_toArray, List.set_cons_zero, List.set_cons_succ]
        refine wpAnyH_get 6 (some 61) (.pointer (some ⟨(od.add (k * 5)).block, (od.add (k * 5)).off + 4, none⟩)) rfl rfl (by kernel_rfl) (by kernel_rfl) (by kernel_rfl) (fun _ _ _ h => h) (by rfl) hHeld ?_ ?_
        · (intro w hSw; (try dsimp only at hSw); go_simp; all_goals (try with_reducible rfl))
        simp only [Act.put, List.setIfInBounds_toArray, List.set_cons_zero, List.set_cons_succ]
        refine wpAnyH_get 7 (some 62) (.slice E el.length ce) rfl rfl (by kernel_rfl) (by kernel_rfl) (by kernel_rfl) (fun _ _ _ h => h) (by rfl) hHeld ?_ ?_
        · (intro w hSw; (try dsimp only at hSw); go_simp; all_goals (try with_reducible rfl))
        simp only [Act.put, List.setIfInBounds_toArray, List.set_cons_zero, List.set_cons_succ]
        refine wpAnyH_get 8 (some 63) (.agg #[.bool false, .slice A 1 ca, .bool false, .slice none 0 0, .slice E el.length ce]) rfl rfl (by kernel_rfl) (by kernel_rfl) (by kernel_rfl) (fun _ _ _ h => h) (by rfl) hHeld ?_ ?_
        · (intro w hSw; (try dsimp only at hSw); go_simp; all_goals (try with_reducible rfl))
        simp only [Act.put, List.setIfInBounds_toArray, List.set_cons_zero, List.set_cons_succ]
        refine wpAnyH_ready (rs := [1, 9]) (by kernel_rfl) (by simp) ?_
        refine AllReadyH.cons rfl (fun K hK => ?_) (AllReadyH.cons rfl (fun K hK => ?_) AllReadyH.nil)
        · obtain ⟨x0, x1, x2, x3⟩ := (HS4.out.b6.keep BZ HS4.out.b6.lt).two
          go_simp
          refine hK.out _ _ ⟨keep_cell BZ y0, keep_cell BZ y1, keep_cell BZ y2, keep_cell BZ y3, keep_cell BZ k4⟩ (fun hHeld => ?_)
          clear hK K x0 x1 x2 x3
          (try simp only [Act.put, List.setIfInBounds_toArray, List.set_cons_zero, List.set_cons_succ])
          refine wpAnyH_ready (rs := [9]) (by kernel_rfl) (by simp) ?_
          refine AllReadyH.cons rfl (fun K hK => ?_) AllReadyH.nil
          go_simp
          have BY : Below we.heap.size we (Z.alloc (.cells #[.bool false, .slice A 1 ca, .bool false, .slice none 0 0, .slice E el.length ce] 99)) := BZ.alloc BZ.size _
          have HNW := Lib.hid (cells_new Z 99 [.bool false, .slice A 1 ca, .bool false, .slice none 0 0, .slice E el.length ce])
          refine hK.out _ _ ⟨keep_cell BY y0, keep_cell BY y1, keep_cell BY y2, keep_cell BY y3, keep_cell BY k4⟩ (fun hHeld => ?_)
          clear hK K
          (try simp only [Act.put, List.setIfInBounds_toArray, List.set_cons_zero, List.set_cons_succ])
          have hzz : we.heap.size ≤ Z.heap.size := BZ.size
          have hz1 : (Z.alloc (.cells #[.bool false, .slice A 1 ca, .bool false, .slice none 0 0, .slice E el.length ce] 99)).heap.size = Z.heap.size + 1 := by simp
          generalize Z.alloc (.cells [.bool false, .slice A 1 ca, .bool false, .slice none 0 0, .slice E el.length ce].toArray 99) = Y at *
          generalize Z.heap.size = g9 at *
          refine wpAnyH_ready (rs := [10]) (by kernel_rfl) (by simp) ?_
          refine AllReadyH.cons rfl (fun K hK => ?_) AllReadyH.nil
          have hownY := own_below HS4.out.own BY (Nat.le_refl _)
          refine step_append_lies _ (by rfl) _ _ 63 (by rfl) (w.heap.size + 2) 99 i0 _ 5 88 Tryz.underlying63 hi iz0 iz1 iz2 rfl (by decide) (.slice R k c) k ((List.replicate k t).flatMap RT.cells) (by simp [Act.eval]) hownY ⟨g9, 0, none⟩ 1 1 [.bool false, .slice A 1 ca, .bool false, .slice none 0 0, .slice E el.length ce] (by simp [Act.eval]) rfl HNW.out (by simp [Value.oneCell']) (by omega) (by simp only [maxLen]; omega) (by omega) (by omega) (g9 + 1) hz1 ?_
          intro g cap w3 hown' hgrow _ _
          have K4 := Blk.grown (HS4.out.b4.keep BY HS4.out.b4.lt) hgrow (own_blk_ne hownY (HS4.out.b4.keep BY HS4.out.b4.lt) (by decide))
          have K6 := Blk.grown (HS4.out.b6.keep BY HS4.out.b6.lt) hgrow (own_blk_ne hownY (HS4.out.b6.keep BY HS4.out.b6.lt) (by decide))
          have t0 := hgrow.cell (keep_cell BY y0) ho8
          have t1 := hgrow.cell (keep_cell BY y1) ho8
          have t2 := hgrow.cell (keep_cell BY y2) ho8
          have t3 := hgrow.cell (keep_cell BY y3) ho8
          have t4 := hgrow.cell (keep_cell BY k4) hoa
          refine hK.out _ _ ⟨t0, t1, t2, t3, t4⟩ (fun hHeld => ?_)
          clear hK K
          (try simp only [Act.put, List.setIfInBounds_toArray])
          refine wpAnyH_get 11 (some 66) (.pointer (some ⟨w.heap.size + 1, 1, none⟩)) rfl rfl (by kernel_rfl) (by kernel_rfl) (by kernel_rfl) (fun _ _ _ h => h) (by rfl) hHeld ?_ ?_
          · (intro w hSw; (try dsimp only at hSw); go_simp; all_goals (try with_reducible rfl))
          simp only [Act.put]
          refine wpAnyH_ready (rs := [12]) (by kernel_rfl) (by simp) ?_
          refine AllReadyH.cons rfl (fun K hK => ?_) AllReadyH.nil
          obtain ⟨x0, x1, x2, x3⟩ := K6.two
          have hbG := Below.grown (below_all (below_all hbr hbe) BY) hgrow (by omega) (fun j hj => by have := (hownY.lt j hj).1; omega)
          go_simp
          refine hK.out _ _ ⟨FAR.out _ _ _ _ t0 f8, FAR.out _ _ _ _ t1 f8, FAR.out _ _ _ _ t2 f8, FAR.out _ _ _ _ t3 f8, FAR.out _ _ _ _ t4 f4⟩ (fun hHeld => ?_)
          clear hK K
          (try simp only [Act.put, List.setIfInBounds_toArray, List.set_cons_zero, List.set_cons_succ])
          refine wpAnyH_done (by kernel_rfl) ?_ _
          clear t0 t1 t2 t3 t4 x0 x1 x2 x3
          go_wp2
          go_roundw
          case rel =>
            refine ⟨k + 1, some ⟨g, 0, none⟩, cap, by go_num, by omega, Lib.hid ⟨below_far hbG (by omega) _ _, K4.far (by show w.heap.size ≠ w.heap.size + 1; omega) _, K6.set 1 _, ?_⟩⟩
            rw [List.replicate_succ', List.flatMap_append]
            have e : [t].flatMap RT.cells = [.bool false, .slice A 1 ca, .bool false, .slice none 0 0, .slice E el.length ce] := by simp [HT.out]
            rw [e]
            exact own_far hown' (own_blk_ne hown' K6 (by decide)) _
          case measure => simp [intOf]; omega
        · go_simp
          have BY : Below we.heap.size we (Z.alloc (.cells #[.bool false, .slice A 1 ca, .bool false, .slice none 0 0, .slice E el.length ce] 99)) := BZ.alloc BZ.size _
          have HNW := Lib.hid (cells_new Z 99 [.bool false, .slice A 1 ca, .bool false, .slice none 0 0, .slice E el.length ce])
          refine hK.out _ _ ⟨keep_cell BY y0, keep_cell BY y1, keep_cell BY y2, keep_cell BY y3, keep_cell BY k4⟩ (fun hHeld => ?_)
          clear hK K
          (try simp only [Act.put, List.setIfInBounds_toArray, List.set_cons_zero, List.set_cons_succ])
          have hzz : we.heap.size ≤ Z.heap.size := BZ.size
          have hz1 : (Z.alloc (.cells #[.bool false, .slice A 1 ca, .bool false, .slice none 0 0, .slice E el.length ce] 99)).heap.size = Z.heap.size + 1 := by simp
          generalize Z.alloc (.cells [.bool false, .slice A 1 ca, .bool false, .slice none 0 0, .slice E el.length ce].toArray 99) = Y at *
          generalize Z.heap.size = g9 at *
          refine wpAnyH_ready (rs := [1]) (by kernel_rfl) (by simp) ?_
          refine AllReadyH.cons rfl (fun K hK => ?_) AllReadyH.nil
          obtain ⟨x0, x1, x2, x3⟩ := (HS4.out.b6.keep BY HS4.out.b6.lt).two
          go_simp
          refine hK.out _ _ ⟨keep_cell BY y0, keep_cell BY y1, keep_cell BY y2, keep_cell BY y3, keep_cell BY k4⟩ (fun hHeld => ?_)
          clear hK K x0 x1 x2 x3
          (try simp only [Act.put, List.setIfInBounds_toArray, List.set_cons_zero, List.set_cons_succ])
          refine wpAnyH_ready (rs := [10]) (by kernel_rfl) (by simp) ?_
          refine AllReadyH.cons rfl (fun K hK => ?_) AllReadyH.nil
          have hownY := own_below HS4.out.own BY (Nat.le_refl _)
          refine step_append_lies _ (by rfl) _ _ 63 (by rfl) (w.heap.size + 2) 99 i0 _ 5 88 Tryz.underlying63 hi iz0 iz1 iz2 rfl (by decide) (.slice R k c) k ((List.replicate k t).flatMap RT.cells) (by simp [Act.eval]) hownY ⟨g9, 0, none⟩ 1 1 [.bool false, .slice A 1 ca, .bool false, .slice none 0 0, .slice E el.length ce] (by simp [Act.eval]) rfl HNW.out (by simp [Value.oneCell']) (by omega) (by simp only [maxLen]; omega) (by omega) (by omega) (g9 + 1) hz1 ?_
          intro g cap w3 hown' hgrow _ _
          have K4 := Blk.grown (HS4.out.b4.keep BY HS4.out.b4.lt) hgrow (own_blk_ne hownY (HS4.out.b4.keep BY HS4.out.b4.lt) (by decide))
          have K6 := Blk.grown (HS4.out.b6.keep BY HS4.out.b6.lt) hgrow (own_blk_ne hownY (HS4.out.b6.keep BY HS4.out.b6.lt) (by decide))
          have t0 := hgrow.cell (keep_cell BY y0) ho8
          have t1 := hgrow.cell (keep_cell BY y1) ho8
          have t2 := hgrow.cell (keep_cell BY y2) ho8
          have t3 := hgrow.cell (keep_cell BY y3) ho8
          have t4 := hgrow.cell (keep_cell BY k4) hoa
          refine hK.out _ _ ⟨t0, t1, t2, t3, t4⟩ (fun hHeld => ?_)
          clear hK K
          (try simp only [Act.put, List.setIfInBounds_toArray])
          refine wpAnyH_get 11 (some 66) (.pointer (some ⟨w.heap.size + 1, 1, none⟩)) rfl rfl (by kernel_rfl) (by kernel_rfl) (by kernel_rfl) (fun _ _ _ h => h) (by rfl) hHeld ?_ ?_
          · (intro w hSw; (try dsimp only at hSw); go_simp; all_goals (try with_reducible rfl))
          simp only [Act.put]
          refine wpAnyH_ready (rs := [12]) (by kernel_rfl) (by simp) ?_
          refine AllReadyH.cons rfl (fun K hK => ?_) AllReadyH.nil
          obtain ⟨x0, x1, x2, x3⟩ := K6.two
          have hbG := Below.grown (below_all (below_all hbr hbe) BY) hgrow (by omega) (fun j hj => by have := (hownY.lt j hj).1; omega)
          go_simp
          refine hK.out _ _ ⟨FAR.out _ _ _ _ t0 f8, FAR.out _ _ _ _ t1 f8, FAR.out _ _ _ _ t2 f8, FAR.out _ _ _ _ t3 f8, FAR.out _ _ _ _ t4 f4⟩ (fun hHeld => ?_)
          clear hK K
          (try simp only [Act.put, List.setIfInBounds_toArray, List.set_cons_zero, List.set_cons_succ])
          refine wpAnyH_done (by kernel_rfl) ?_ _
          clear t0 t1 t2 t3 t4 x0 x1 x2 x3
          go_wp2
          go_roundw
          case rel =>
            refine ⟨k + 1, some ⟨g, 0, none⟩, cap, by go_num, by omega, Lib.hid ⟨below_far hbG (by omega) _ _, K4.far (by show w.heap.size ≠ w.heap.size + 1; omega) _, K6.set 1 _, ?_⟩⟩
            rw [List.replicate_succ', List.flatMap_append]
            have e : [t].flatMap RT.cells = [.bool false, .slice A 1 ca, .bool false, .slice none 0 0, .slice E el.length ce] := by simp [HT.out]
            rw [e]
            exact own_far hown' (own_blk_ne hown' K6 (by decide)) _
          case measure => simp [intOf]; omega
    · obtain rfl : k = 1 := by omega
      obtain ⟨a0, a1, a2, a3⟩ := HST.out.b6.two
      obtain ⟨b0, b1, b2, b3⟩ := HST.out.b4.two
      go_wp2
      have K4 := (HST.out.b4.set 0 (.int .i64 V)).set 1 (.slice R 1 c)
      obtain ⟨e0, e1, _, _⟩ := Blk.two (a := .int .i64 V) (b := .slice R 1 c) (by simpa using K4)
      refine bodyPost_ret (v := .agg #[.int .i64 V, .slice R 1 c]) (by simp [results, Tryz.results51, go_sem, e0, e1]) rfl ⟨R, c, rfl, ?_, ?_⟩
      · have ho := own_far (own_far HST.out.own (own_blk_ne HST.out.own HST.out.b4 (by decide)) (p := ⟨w.heap.size, 0, none⟩) (.int .i64 V)) (own_blk_ne HST.out.own HST.out.b4 (by decide)) (p := ⟨w.heap.size, 1, none⟩) (.slice R 1 c)
        have := own_base ho (show w.heap.size ≤ w.heap.size + 2 by omega)
        simpa using this
      · exact below_far (below_far hbr (Nat.le_refl _) _ _) (Nat.le_refl _) _ _
end Go.Proofs.Tg.Sx
end
section
/- A step of a drawn region: an operation whose guard is not met is passed over. -/
namespace Go.Proofs.Tg
/-- An operation whose guard is not met. -/
theorem wpAnyH_pass {P : Program} {md : Region.Mode} {ops : Array Oper} {Q : Exit → Act → World → Prop} {S : World → Prop} (i : Nat) (d : Option Tmp) {oi : Oper} {fuel : Nat} {listed : Array Bool} {a : Act} {w : World} (hi : ops[i]? = some oi) (hd : oi.dst = d)
    (hs : Region.noSelect ops = true) (hf : Region.free md ops listed i = true) (hr : (Region.ready md ops listed).contains i = true) (hQ : ∀ c a w, Q (.panic c) (a.put d undef) w → Q (.panic c) a w)
    (hw : Region.wanted oi (yielded ops a.tmps) = false) (hS : S w) (h : wpAnyH P md ops Q S fuel (listed.setIfInBounds i true) (a.put d undef) w) : wpAnyH P md ops Q S (fuel + 1) listed a w := by
  subst hd
  exact wpAnyH_take hi hs hf hr hQ (.inr ⟨hw, rfl⟩) hS h
end Go.Proofs.Tg
end
