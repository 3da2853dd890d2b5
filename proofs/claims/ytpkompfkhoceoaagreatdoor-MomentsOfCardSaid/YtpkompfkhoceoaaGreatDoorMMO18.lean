/- Parts of the proof: SP4, SM4, QV2, FN4, FN5, TX3. -/
import Derived.Laws.CopyOwn
import Derived.Laws.IdiomCopy
import Derived.Maps.OwnSet
import Derived.DeepKeys5
import Derived.WalkKit
import Derived.ChangeKeys
import Derived.Maps.OwnOps
import Derived.DeepKeys4
import Derived.Laws.ShiftsVarLaws
import Derived.Laws.MakeOwn
import Derived.Deep.AppendLies
import Derived.Deep.RegionHeld3
import Derived.Maps.AppendAt
import Derived.Test.YtpkompfkhoceoaaGreatDoorMMO0
import Derived.Test.YtpkompfkhoceoaaGreatDoorMMO1
import Derived.Test.YtpkompfkhoceoaaGreatDoorMMO2
import Derived.Test.YtpkompfkhoceoaaGreatDoorMMO3
import Derived.Test.YtpkompfkhoceoaaGreatDoorMMO7
import Derived.Test.YtpkompfkhoceoaaGreatDoorMMO13
import Derived.Test.YtpkompfkhoceoaaGreatDoorMMO16
import Derived.Test.YtpkompfkhoceoaaGreatDoorMMO17
section
/- The error of a polynomial and a basis; the number of rounds is one; what the reference adds to its set: plain. -/
namespace Go.Sp
open Go.Ev Go.Mo Go.Gr
section
variable {N : Nat} (R : Rounds N)
end
/-- A key that may be asked: a monomial in n variables. -/
def domK (n : Nat) (c : Int) (v : List Int) : Prop := v.length = n ∧ ∀ x ∈ v, 0 ≤ x ∧ x ≤ c
theorem domK.mono {n : Nat} {c d : Int} {v : List Int} (h : domK n c v) (hcd : c ≤ d) : domK n d v := ⟨h.1, fun x hx => ⟨(h.2 x hx).1, by have := (h.2 x hx).2; omega⟩⟩
end Go.Sp
end
section
/- What stays where a map's block alone has turned. -/
namespace Go.Proofs.Tg
open Go.RowKit Go.Maps
/-- Block b is a map's. -/
def MapB (w : World) (b : Nat) : Prop := ∃ es clock, w.heap[b]? = some (.map es clock)
theorem MapB.lt {w : World} {b : Nat} (h : MapB w b) : b < w.heap.size := by
  obtain ⟨es, clock, hb⟩ := h
  exact (Array.getElem?_eq_some_iff.1 hb).1
end Go.Proofs.Tg
end
section
/- The errors of a polynomial and of constraints; the pairs of variables that occur together: plain, and the first loops of Variables. -/
namespace Go.Proofs.Tg.Sx
open Go.RowKit Go.Gr Go.Sp Go.Ev Go.Mo
set_option maxHeartbeats 4000000
set_option maxRecDepth 100000
/-- Two variables occur in one of the terms. -/
def inT (ts : List TV) (x y : Nat) : Prop := ∃ t ∈ ts, 0 < t.exps.getD x 0 ∧ 0 < t.exps.getD y 0
/-- The table holds just the pairs of P. -/
def JP (J : Nat → Nat → Bool) (P : Nat → Nat → Prop) : Prop := ∀ x y, x < y → y < 6 → (J x y = true ↔ P x y)
theorem JP.congr {J : Nat → Nat → Bool} {P Q : Nat → Nat → Prop} (h : JP J P) (hp : ∀ x y, x < y → y < 6 → (P x y ↔ Q x y)) : JP J Q := fun x y h1 h2 => (h x y h1 h2).trans (hp x y h1 h2)
end Go.Proofs.Tg.Sx
end
section
/- The reference's sum of one term. -/
namespace Go.Proofs.Tg.Sx
open Go.RowKit Go.Gr Go.Sp Go.Ev Go.Mo Go.Bn
set_option maxHeartbeats 4000000
set_option maxRecDepth 100000
theorem sorted_one (A : Option Addr) (c : Nat) (w : World) : Calls Tryz.prog 87 #[.slice A 1 c] w fun e w' => e = .returned (.slice A 1 c) ∧ w = w' := by
  go_enter Tryz.func87, Tryz.ntmps87
  go_wp2
  go_ret
  exact ⟨rfl, rfl⟩
end Go.Proofs.Tg.Sx
end
section
/- The reference's sum of one term, walked (printed by wip/tools/mk_sum1.py). -/
namespace Go.Proofs.Tg.Sx
open Go.RowKit Go.Gr Go.Sp Go.Ev Go.Mo Go.Bn Go.Qn
set_option maxHeartbeats 8000000
set_option maxRecDepth 100000
theorem rt5_info : (Tryz.prog.info? 99).map (fun i => (i.zero, i.size, i.bytes)) = some (some (.agg #[.bool false, .slice none 0 0, .bool false, .slice none 0 0, .slice none 0 0]), 5, 88) := by kernel_rfl
theorem rt5_at {w : World} {T : Option Addr} {ts : List RT} (h : Sl w T ts.length 5 (ts.flatMap RT.cells)) {k : Nat} (hk : k < ts.length) :
    ∃ ad, T = some ad ∧ ad.block < w.heap.size ∧ w.cell? (ad.add (k * 5)) = some ts[k].c0 ∧ w.cell? ⟨(ad.add (k * 5)).block, (ad.add (k * 5)).off + 1, none⟩ = some ts[k].c1 ∧ w.cell? ⟨(ad.add (k * 5)).block, (ad.add (k * 5)).off + 2, none⟩ = some ts[k].c2 ∧
      w.cell? ⟨(ad.add (k * 5)).block, (ad.add (k * 5)).off + 3, none⟩ = some ts[k].c3 ∧ w.cell? ⟨(ad.add (k * 5)).block, (ad.add (k * 5)).off + 4, none⟩ = some (.slice ts[k].adr ts[k].exps.length ts[k].cap) := by
  obtain ⟨ad, rfl, hlt, ha⟩ := h.lies (by omega)
  have off : ∀ i, (⟨(ad.add (k * 5)).block, (ad.add (k * 5)).off + (i + 1), none⟩ : Addr) = ad.add (k * 5 + (i + 1)) := fun i => by rw [← add_add]; simp [Addr.add]
  have g := fun j hj => flat_get RT.cells 5 (fun _ => rfl) ts k j hk hj
  refine ⟨ad, rfl, hlt, ha _ _ ?_, (congrArg w.cell? (off 0)).trans (ha _ _ ?_), (congrArg w.cell? (off 1)).trans (ha _ _ ?_), (congrArg w.cell? (off 2)).trans (ha _ _ ?_), (congrArg w.cell? (off 3)).trans (ha _ _ ?_)⟩
  · have := g 0 (by omega); rw [Nat.add_zero] at this; exact this
  · exact g 1 (by omega)
  · exact g 2 (by omega)
  · exact g 3 (by omega)
  · exact g 4 (by omega)
/-- A term with the coefficient one. -/
def one1 (A : Option Addr) (ca : Nat) (E : Option Addr) (ce : Nat) (el : List Int) : RT := ⟨.bool false, .slice A 1 ca, .bool false, .slice none 0 0, E, ce, el⟩
/-- What Sum's loop holds. -/
structure SmSt (w : World) (V : Int) (t : RT) (wr : World) (k : Nat) (R : Option Addr) (c : Nat) : Prop where
  below : Below w.heap.size w wr
  b4 : Blk wr w.heap.size 65 #[.int .i64 0, .slice none 0 0]
  b6 : Blk wr (w.heap.size + 1) 65 #[.int .i64 V, .slice R k c]
  own : wr.ownsRow (w.heap.size + 2) 99 5 (.slice R k c) k ((List.replicate k t).flatMap RT.cells)
theorem SmSt.keep {w wr wz : World} {V : Int} {t : RT} {k c : Nat} {R : Option Addr} (h : SmSt w V t wr k R c) (hb : Below wr.heap.size wr wz) : SmSt w V t wz k R c :=
  ⟨below_all h.below hb, h.b4.keep hb h.b4.lt, h.b6.keep hb h.b6.lt, own_below h.own hb (Nat.le_refl _)⟩
theorem rsum1_any (V : Int) (L : Option Addr) (cL : Nat) (A : Option Addr) (ca : Nat) (E : Option Addr) (ce : Nat) (el : List Int) (w : World) (hL : Sl w L 1 5 (one1 A ca E ce el).cells) :
    Calls Tryz.prog 51 #[.int .i64 V, .slice L 1 cL] w fun e w' => ∃ R c, e = .returned (.agg #[.int .i64 V, .slice R 1 c]) ∧ w'.ownsRow w.heap.size 99 5 (.slice R 1 c) 1 (one1 A ca E ce el).cells ∧ Below w.heap.size w w' := by
  have hL1 : Sl w L ([one1 A ca E ce el]).length 5 (([one1 A ca E ce el]).flatMap RT.cells) := by simpa using hL
  obtain ⟨od, rfl, hob, k0, k1, k2, k3, k4⟩ := rt5_at hL1 (k := 0) (by simp)
  have HT : Hid ((one1 A ca E ce el).cells = [.bool false, .slice A 1 ca, .bool false, .slice none 0 0, .slice E el.length ce]) := Lib.hid rfl
  have c0 : w.cell? (od.add (0 * 5)) = some (.bool false) := k0
  have c1 : w.cell? ⟨(od.add (0 * 5)).block, (od.add (0 * 5)).off + 1, none⟩ = some (.slice A 1 ca) := k1
  have c2 : w.cell? ⟨(od.add (0 * 5)).block, (od.add (0 * 5)).off + 2, none⟩ = some (.bool false) := k2
  have c3 : w.cell? ⟨(od.add (0 * 5)).block, (od.add (0 * 5)).off + 3, none⟩ = some (.slice none 0 0) := k3
  have c4 : w.cell? ⟨(od.add (0 * 5)).block, (od.add (0 * 5)).off + 4, none⟩ = some (.slice E el.length ce) := k4
  have HC : Hid (∀ k : Nat, k < 1 → w.cell? (od.add (k * 5)) = some (.bool false) ∧ w.cell? ⟨(od.add (k * 5)).block, (od.add (k * 5)).off + 1, none⟩ = some (.slice A 1 ca) ∧ w.cell? ⟨(od.add (k * 5)).block, (od.add (k * 5)).off + 2, none⟩ = some (.bool false) ∧ w.cell? ⟨(od.add (k * 5)).block, (od.add (k * 5)).off + 3, none⟩ = some (.slice none 0 0) ∧ w.cell? ⟨(od.add (k * 5)).block, (od.add (k * 5)).off + 4, none⟩ = some (.slice E el.length ce)) := Lib.hid (fun k hk => by
    obtain rfl : k = 0 := by omega
    exact ⟨c0, c1, c2, c3, c4⟩)
  clear k0 k1 k2 k3 k4 c0 c1 c2 c3 c4 hL hL1
  generalize one1 A ca E ce el = t at *
  obtain ⟨i0, hi, iz0, iz1, iz2⟩ := info_parts rt5_info
  obtain ⟨W, hW⟩ : ∃ W, (w.alloc (.cells #[.int .i64 0, .slice none 0 0] 65)).alloc (.cells #[.int .i64 V, .slice none 0 0] 65) = W := ⟨_, rfl⟩
  have B4 : Blk W w.heap.size 65 #[.int .i64 0, .slice none 0 0] := by rw [← hW]; exact (Blk.new _ _ _).alloc _
  have B6 : Blk W (w.heap.size + 1) 65 #[.int .i64 V, .slice none 0 0] := by
    rw [← hW]; have := Blk.new (w.alloc (.cells #[.int .i64 0, .slice none 0 0] 65)) 65 #[.int .i64 V, .slice none 0 0]
    simpa using this
  have hbW : Below w.heap.size w W := by rw [← hW]; exact ((Below.refl _ _).alloc (Nat.le_refl _) _).alloc (by simp) _
  have HWW := Lib.hid hW
  clear hW
  go_enter Tryz.func51, Tryz.ntmps51
  go_upto_region 3 with (go_at_call 87; refine (sorted_one _ _ _).mono ?_; rintro e w1 ⟨rfl, rfl⟩)
  rw [HWW.out]
  go_wp2
  go_loopw [7] (fun s7 wr => ∃ (k : Nat) (R : Option Addr) (c : Nat), s7 = .int .i64 k ∧ k ≤ 1 ∧ Hid (SmSt w V t wr k R c)) (fun s7 _ => 1 - (intOf s7).toNat)
  case atStart => exact ⟨0, none, 0, rfl, by omega, Lib.hid ⟨hbW, B4, B6, World.ownsRow_nil _ _ _ _⟩⟩
  case round =>
    clear B4 B6 hbW
    obtain ⟨wo, rfl⟩ : ∃ wo : World, wo = wr := ⟨_, rfl⟩
    obtain ⟨k, R, c, rfl, hk, HST⟩ := hrel
    have hbr := HST.out.below
    have hz : w.heap.size + 2 ≤ wo.heap.size := by have := HST.out.b6.lt; omega
    by_cases hlt : k < 1
    · obtain ⟨k0, k1, k2, k3, k4⟩ := HC.out k hlt
      have k0 := keep_cell hbr k0
      have k1 := keep_cell hbr k1
      have k2 := keep_cell hbr k2
      have k3 := keep_cell hbr k3
      have k4 := keep_cell hbr k4
      have q0 : (0 : Int) ≤ (k : Int) := by omega
      have q1 : (k : Int) < 1 := by omega
      have q3 : ((k : Int)).toNat = k := by omega
      have q4 : decide ((k : Int) + 1 < 1) = false := decide_eq_false (by omega)
      go_upto_region 6 with (fail)
      obtain ⟨W3, hW3⟩ : ∃ W3, wo.alloc (.cells #[.bool false, .slice A 1 ca, .bool false, .slice none 0 0] 52) = W3 := ⟨_, rfl⟩
      have F8 : Blk W3 wo.heap.size 52 #[.bool false, .slice A 1 ca, .bool false, .slice none 0 0] := by rw [← hW3]; exact Blk.new _ _ _
      have hbF : Below wo.heap.size wo W3 := by rw [← hW3]; exact (Below.refl _ _).alloc (Nat.le_refl _) _
      rw [hW3]
      have HS3 := Lib.hid (HST.out.keep hbF)
      clear hW3 k0 k1 k2 k3 k4
      go_wp2
      go_loopw [9] (fun s9 wr => s9 = .int .i64 ((k : Int) + 1) ∧ Below wo.heap.size wo wr ∧ Blk wr wo.heap.size 52 #[.bool false, .slice A 1 ca, .bool false, .slice none 0 0]) (fun _ _ => 0)
      case atStart => exact ⟨by go_num, hbF, F8⟩
      case round =>
        clear F8 hbF HS3
        obtain ⟨wi, rfl⟩ : ∃ wi : World, wi = wr := ⟨_, rfl⟩
        obtain ⟨rfl, hbi, F8⟩ := hrel
        go_upto_region 7 with (fail)
        go_quiet (fail)
        have hbd : Below wo.heap.size wo (wi.drewN nq) := below_all hbi (below_drewN (Below.refl _ _) _)
        have G8 : Blk (wi.drewN nq) wo.heap.size 52 #[.bool false, .slice A 1 ca, .bool false, .slice none 0 0] := F8.keep (below_drewN (Below.refl _ _) _) F8.lt
        generalize wi.drewN nq = wd at *
        clear F8 hbi
        obtain ⟨y0, y1, y2, y3, z0, z1, z2, z3⟩ := G8.four
        have HRS := Lib.hid (fun V => rsign_any false false A none 1 ca 0 0 V (by omega) 1 (by simp))
        go_upto_region 11 with (go_at_call 89; refine (HRS.out _).mono ?_; rintro e we ⟨rfl, hbs⟩)
        have H8 := G8.keep hbs G8.lt
        have hbe := below_all hbd hbs
        clear y0 y1 y2 y3 z0 z1 z2 z3 G8 hbd hbs HRS
        have HS4 := Lib.hid (HST.out.keep hbe)
        obtain ⟨y0, y1, y2, y3, _, _, _, _⟩ := H8.four
        obtain ⟨k0, k1, k2, k3, k4⟩ := HC.out k hlt
        have k4 := keep_cell (below_all hbr hbe) k4
        clear k0 k1 k2 k3
        have hz8 := H8.lt
        have f8 : wo.heap.size ≠ w.heap.size + 1 := by omega
        have f4 : (od.add (k * 5)).block ≠ w.heap.size + 1 := by rw [add_block]; omega
        have hoa : some (od.add (k * 5)).block ≠ (Value.slice R k c).ownBlock := fun e => by have := (HST.out.own.lt _ e.symm).1; rw [add_block] at this; omega
        have ho8 : some wo.heap.size ≠ (Value.slice R k c).ownBlock := fun e => by have := (HST.out.own.lt _ e.symm).2; omega
        have FAR : Hid (∀ (V : World) (p : Addr) (u u' : Value), V.cell? p = some u → p.block ≠ w.heap.size + 1 → (V.setCell ⟨w.heap.size + 1, 1, none⟩ u').cell? p = some u) := Lib.hid (fun V p u u' h hne => (World.cell?_setCell_other _ _ _ _ (fun e => hne (by rw [← e]))).trans h)
        have BZ : Below we.heap.size we we.drew := (Below.refl _ _).drew
        have hzw : wo.heap.size < we.heap.size := hz8
        clear H8
        refine wp_region_held_drew (S := (fun w' => w'.cell? ⟨wo.heap.size, 0, none⟩ = some (.bool false) ∧ w'.cell? ⟨wo.heap.size, 1, none⟩ = some (.slice A 1 ca) ∧ w'.cell? ⟨wo.heap.size, 2, none⟩ = some (.bool false) ∧ w'.cell? ⟨wo.heap.size, 3, none⟩ = some (.slice none 0 0) ∧ w'.cell? ⟨(od.add (k * 5)).block, (od.add (k * 5)).off + 4, none⟩ = some (.slice E el.length ce))) (by kernel_rfl) ⟨y0, y1, y2, y3, k4⟩ (fun hHeld => ?_)
        generalize we.drew = Z at *
        refine wpAnyH_get 0 (some 55) (.pointer (some ⟨w.heap.size + 1, 1, none⟩)) rfl rfl (by kernel_rfl) (by kernel_rfl) (by kernel_rfl) (fun _ _ _ h => h) (by rfl) hHeld ?_ ?_
        · (intro w hSw; (try dsimp only at hSw); go_simp; all_goals (try with_reducible rfl))
        simp only [Act.put, List.setIfInBounds_toArray, List.set_cons_zero, List.set_cons_succ]
        refine wpAnyH_get 2 (some 57) (.agg #[.bool false, .slice A 1 ca, .bool false, .slice none 0 0]) rfl rfl (by kernel_rfl) (by kernel_rfl) (by kernel_rfl) (fun _ _ _ h => h) (by rfl) hHeld ?_ ?_
        · (intro w hSw; (try dsimp only at hSw); go_simp; all_goals (try with_reducible rfl))
        simp only [Act.put, List.setIfInBounds_toArray, List.set_cons_zero, List.set_cons_succ]
        refine wpAnyH_get 3 (some 58) (.slice (some od) 1 cL) rfl rfl (by kernel_rfl) (by kernel_rfl) (by kernel_rfl) (fun _ _ _ h => h) (by rfl) hHeld ?_ ?_
        · (intro w hSw; (try dsimp only at hSw); go_simp; all_goals (try with_reducible rfl))
        simp only [Act.put, List.setIfInBounds_toArray, List.set_cons_zero, List.set_cons_succ]
        refine wpAnyH_get 4 (some 59) (.int .i64 k) rfl rfl (by kernel_rfl) (by kernel_rfl) (by kernel_rfl) (fun _ _ _ h => h) (by rfl) hHeld ?_ ?_
        · (intro w hSw; (try dsimp only at hSw); go_simp; all_goals (try with_reducible rfl))
        simp only [Act.put, List.setIfInBounds_toArray, List.set_cons_zero, List.set_cons_succ]
        refine wpAnyH_get 5 (some 60) (.pointer (some (od.add (k * 5)))) rfl rfl (by kernel_rfl) (by kernel_rfl) (by kernel_rfl) (fun _ _ _ h => h) (by rfl) hHeld ?_ ?_
        · (intro w hSw; (try dsimp only at hSw); go_simp; all_goals (try with_reducible rfl))
        simp only [Act.put, List.setIfInBounds_toArray, List.set_cons_zero, List.set_cons_succ]
        refine wpAnyH_get 6 (some 61) (.pointer (some ⟨(od.add (k * 5)).block, (od.add (k * 5)).off + 4, none⟩)) rfl rfl (by kernel_rfl) (by kernel_rfl) (by kernel_rfl) (fun _ _ _ h => h) (by rfl) hHeld ?_ ?_
        · (intro w hSw; (try dsimp only at hSw); go_simp; all_goals (try with_reducible rfl))
        simp only [Act.put, List.setIfInBounds_toArray, List.set_cons_zero, List.set_cons_succ]
        refine wpAnyH_get 7 (some 62) (.slice E el.length ce) rfl rfl (by kernel_rfl) (by kernel_rfl) (by kernel_rfl) (fun _ _ _ h => h) (by rfl) hHeld ?_ ?_
        · (intro w hSw; (try dsimp only at hSw); go_simp; all_goals (try with_reducible rfl))
        simp only [Act.put, List.setIfInBounds_toArray, List.set_cons_zero, List.set_cons_succ]
        refine wpAnyH_get 8 (some 63) (.agg #[.bool false, .slice A 1 ca, .bool false, .slice none 0 0, .slice E el.length ce]) rfl rfl (by kernel_rfl) (by kernel_rfl) (by kernel_rfl) (fun _ _ _ h => h) (by rfl) hHeld ?_ ?_
        · (intro w hSw; (try dsimp only at hSw); go_simp; all_goals (try with_reducible rfl))
        simp only [Act.put, List.setIfInBounds_toArray, List.set_cons_zero, List.set_cons_succ]
        refine wpAnyH_ready (rs := [1, 9]) (by kernel_rfl) (by simp) ?_
        refine AllReadyH.cons rfl (fun K hK => ?_) (AllReadyH.cons rfl (fun K hK => ?_) AllReadyH.nil)
        · obtain ⟨x0, x1, x2, x3⟩ := (HS4.out.b6.keep BZ HS4.out.b6.lt).two
          go_simp
          refine hK.out _ _ ⟨keep_cell BZ y0, keep_cell BZ y1, keep_cell BZ y2, keep_cell BZ y3, keep_cell BZ k4⟩ (fun hHeld => ?_)
          clear hK K x0 x1 x2 x3
          (try simp only [Act.put, List.setIfInBounds_toArray, List.set_cons_zero, List.set_cons_succ])
          refine wpAnyH_ready (rs := [9]) (by kernel_rfl) (by simp) ?_
          refine AllReadyH.cons rfl (fun K hK => ?_) AllReadyH.nil
          go_simp
          have BY : Below we.heap.size we (Z.alloc (.cells #[.bool false, .slice A 1 ca, .bool false, .slice none 0 0, .slice E el.length ce] 99)) := BZ.alloc BZ.size _
          have HNW := Lib.hid (cells_new Z 99 [.bool false, .slice A 1 ca, .bool false, .slice none 0 0, .slice E el.length ce])
          refine hK.out _ _ ⟨keep_cell BY y0, keep_cell BY y1, keep_cell BY y2, keep_cell BY y3, keep_cell BY k4⟩ (fun hHeld => ?_)
          clear hK K
          (try simp only [Act.put, List.setIfInBounds_toArray, List.set_cons_zero, List.set_cons_succ])
          have hzz : we.heap.size ≤ Z.heap.size := BZ.size
          have hz1 : (Z.alloc (.cells #[.bool false, .slice A 1 ca, .bool false, .slice none 0 0, .slice E el.length ce] 99)).heap.size = Z.heap.size + 1 := by simp
          generalize Z.alloc (.cells [.bool false, .slice A 1 ca, .bool false, .slice none 0 0, .slice E el.length ce].toArray 99) = Y at *
          generalize Z.heap.size = g9 at *
          refine wpAnyH_ready (rs := [10]) (by kernel_rfl) (by simp) ?_
          refine AllReadyH.cons rfl (fun K hK => ?_) AllReadyH.nil
          have hownY := own_below HS4.out.own BY (Nat.le_refl _)
          refine step_append_lies _ (by rfl) _ _ 63 (by rfl) (w.heap.size + 2) 99 i0 _ 5 88 Tryz.underlying63 hi iz0 iz1 iz2 rfl (by decide) (.slice R k c) k ((List.replicate k t).flatMap RT.cells) (by simp [Act.eval]) hownY ⟨g9, 0, none⟩ 1 1 [.bool false, .slice A 1 ca, .bool false, .slice none 0 0, .slice E el.length ce] (by simp [Act.eval]) rfl HNW.out (by simp [Value.oneCell']) (by omega) (by simp only [maxLen]; omega) (by omega) (by omega) (g9 + 1) hz1 ?_
          intro g cap w3 hown' hgrow _ _
          have K4 := Blk.grown (HS4.out.b4.keep BY HS4.out.b4.lt) hgrow (own_blk_ne hownY (HS4.out.b4.keep BY HS4.out.b4.lt) (by decide))
          have K6 := Blk.grown (HS4.out.b6.keep BY HS4.out.b6.lt) hgrow (own_blk_ne hownY (HS4.out.b6.keep BY HS4.out.b6.lt) (by decide))
          have t0 := hgrow.cell (keep_cell BY y0) ho8
          have t1 := hgrow.cell (keep_cell BY y1) ho8
          have t2 := hgrow.cell (keep_cell BY y2) ho8
          have t3 := hgrow.cell (keep_cell BY y3) ho8
          have t4 := hgrow.cell (keep_cell BY k4) hoa
          refine hK.out _ _ ⟨t0, t1, t2, t3, t4⟩ (fun hHeld => ?_)
          clear hK K
          (try simp only [Act.put, List.setIfInBounds_toArray])
          refine wpAnyH_get 11 (some 66) (.pointer (some ⟨w.heap.size + 1, 1, none⟩)) rfl rfl (by kernel_rfl) (by kernel_rfl) (by kernel_rfl) (fun _ _ _ h => h) (by rfl) hHeld ?_ ?_
          · (intro w hSw; (try dsimp only at hSw); go_simp; all_goals (try with_reducible rfl))
          simp only [Act.put]
          refine wpAnyH_ready (rs := [12]) (by kernel_rfl) (by simp) ?_
          refine AllReadyH.cons rfl (fun K hK => ?_) AllReadyH.nil
          obtain ⟨x0, x1, x2, x3⟩ := K6.two
          have hbG := Below.grown (below_all (below_all hbr hbe) BY) hgrow (by omega) (fun j hj => by have := (hownY.lt j hj).1; omega)
          go_simp
          refine hK.out _ _ ⟨FAR.out _ _ _ _ t0 f8, FAR.out _ _ _ _ t1 f8, FAR.out _ _ _ _ t2 f8, FAR.out _ _ _ _ t3 f8, FAR.out _ _ _ _ t4 f4⟩ (fun hHeld => ?_)
          clear hK K
          (try simp only [Act.put, List.setIfInBounds_toArray, List.set_cons_zero, List.set_cons_succ])
          refine wpAnyH_done (by kernel_rfl) ?_ _
          clear t0 t1 t2 t3 t4 x0 x1 x2 x3
          go_wp2
          go_roundw
          case rel =>
            refine ⟨k + 1, some ⟨g, 0, none⟩, cap, by go_num, by omega, Lib.hid ⟨below_far hbG (by omega) _ _, K4.far (by show w.heap.size ≠ w.heap.size + 1; omega) _, K6.set 1 _, ?_⟩⟩
            rw [List.replicate_succ', List.flatMap_append]
            have e : [t].flatMap RT.cells = [.bool false, .slice A 1 ca, .bool false, .slice none 0 0, .slice E el.length ce] := by simp [HT.out]
            rw [e]
            exact own_far hown' (own_blk_ne hown' K6 (by decide)) _
          case measure => simp [intOf]; omega
        · go_simp
          have BY : Below we.heap.size we (Z.alloc (.cells #[.bool false, .slice A 1 ca, .bool false, .slice none 0 0, .slice E el.length ce] 99)) := BZ.alloc BZ.size _
          have HNW := Lib.hid (cells_new Z 99 [.bool false, .slice A 1 ca, .bool false, .slice none 0 0, .slice E el.length ce])
          refine hK.out _ _ ⟨keep_cell BY y0, keep_cell BY y1, keep_cell BY y2, keep_cell BY y3, keep_cell BY k4⟩ (fun hHeld => ?_)
          clear hK K
          (try simp only [Act.put, List.setIfInBounds_toArray, List.set_cons_zero, List.set_cons_succ])
          have hzz : we.heap.size ≤ Z.heap.size := BZ.size
          have hz1 : (Z.alloc (.cells #[.bool false, .slice A 1 ca, .bool false, .slice none 0 0, .slice E el.length ce] 99)).heap.size = Z.heap.size + 1 := by simp
          generalize Z.alloc (.cells [.bool false, .slice A 1 ca, .bool false, .slice none 0 0, .slice E el.length ce].toArray 99) = Y at *
          generalize Z.heap.size = g9 at *
          refine wpAnyH_ready (rs := [1]) (by kernel_rfl) (by simp) ?_
          refine AllReadyH.cons rfl (fun K hK => ?_) AllReadyH.nil
          obtain ⟨x0, x1, x2, x3⟩ := (HS4.out.b6.keep BY HS4.out.b6.lt).two
          go_simp
          refine hK.out _ _ ⟨keep_cell BY y0, keep_cell BY y1, keep_cell BY y2, keep_cell BY y3, keep_cell BY k4⟩ (fun hHeld => ?_)
          clear hK K x0 x1 x2 x3
          (try simp only [Act.put, List.setIfInBounds_toArray, List.set_cons_zero, List.set_cons_succ])
          refine wpAnyH_ready (rs := [10]) (by kernel_rfl) (by simp) ?_
          refine AllReadyH.cons rfl (fun K hK => ?_) AllReadyH.nil
          have hownY := own_below HS4.out.own BY (Nat.le_refl _)
          refine step_append_lies _ (by rfl) _ _ 63 (by rfl) (w.heap.size + 2) 99 i0 _ 5 88 Tryz.underlying63 hi iz0 iz1 iz2 rfl (by decide) (.slice R k c) k ((List.replicate k t).flatMap RT.cells) (by simp [Act.eval]) hownY ⟨g9, 0, none⟩ 1 1 [.bool false, .slice A 1 ca, .bool false, .slice none 0 0, .slice E el.length ce] (by simp [Act.eval]) rfl HNW.out (by simp [Value.oneCell']) (by omega) (by simp only [maxLen]; omega) (by omega) (by omega) (g9 + 1) hz1 ?_
          intro g cap w3 hown' hgrow _ _
          have K4 := Blk.grown (HS4.out.b4.keep BY HS4.out.b4.lt) hgrow (own_blk_ne hownY (HS4.out.b4.keep BY HS4.out.b4.lt) (by decide))
          have K6 := Blk.grown (HS4.out.b6.keep BY HS4.out.b6.lt) hgrow (own_blk_ne hownY (HS4.out.b6.keep BY HS4.out.b6.lt) (by decide))
          have t0 := hgrow.cell (keep_cell BY y0) ho8
          have t1 := hgrow.cell (keep_cell BY y1) ho8
          have t2 := hgrow.cell (keep_cell BY y2) ho8
          have t3 := hgrow.cell (keep_cell BY y3) ho8
          have t4 := hgrow.cell (keep_cell BY k4) hoa
          refine hK.out _ _ ⟨t0, t1, t2, t3, t4⟩ (fun hHeld => ?_)
          clear hK K
          (try simp only [Act.put, List.setIfInBounds_toArray])
          refine wpAnyH_get 11 (some 66) (.pointer (some ⟨w.heap.size + 1, 1, none⟩)) rfl rfl (by kernel_rfl) (by kernel_rfl) (by kernel_rfl) (fun _ _ _ h => h) (by rfl) hHeld ?_ ?_
          · (intro w hSw; (try dsimp only at hSw); go_simp; all_goals (try with_reducible rfl))
          simp only [Act.put]
          refine wpAnyH_ready (rs := [12]) (by kernel_rfl) (by simp) ?_
          refine AllReadyH.cons rfl (fun K hK => ?_) AllReadyH.nil
          obtain ⟨x0, x1, x2, x3⟩ := K6.two
          have hbG := Below.grown (below_all (below_all hbr hbe) BY) hgrow (by omega) (fun j hj => by have := (hownY.lt j hj).1; omega)
          go_simp
          refine hK.out _ _ ⟨FAR.out _ _ _ _ t0 f8, FAR.out _ _ _ _ t1 f8, FAR.out _ _ _ _ t2 f8, FAR.out _ _ _ _ t3 f8, FAR.out _ _ _ _ t4 f4⟩ (fun hHeld => ?_)
          clear hK K
          (try simp only [Act.put, List.setIfInBounds_toArray, List.set_cons_zero, List.set_cons_succ])
          refine wpAnyH_done (by kernel_rfl) ?_ _
          clear t0 t1 t2 t3 t4 x0 x1 x2 x3
          go_wp2
          go_roundw
          case rel =>
            refine ⟨k + 1, some ⟨g, 0, none⟩, cap, by go_num, by omega, Lib.hid ⟨below_far hbG (by omega) _ _, K4.far (by show w.heap.size ≠ w.heap.size + 1; omega) _, K6.set 1 _, ?_⟩⟩
            rw [List.replicate_succ', List.flatMap_append]
            have e : [t].flatMap RT.cells = [.bool false, .slice A 1 ca, .bool false, .slice none 0 0, .slice E el.length ce] := by simp [HT.out]
            rw [e]
            exact own_far hown' (own_blk_ne hown' K6 (by decide)) _
          case measure => simp [intOf]; omega
    · obtain rfl : k = 1 := by omega
      obtain ⟨a0, a1, a2, a3⟩ := HST.out.b6.two
      obtain ⟨b0, b1, b2, b3⟩ := HST.out.b4.two
      go_wp2
      have K4 := (HST.out.b4.set 0 (.int .i64 V)).set 1 (.slice R 1 c)
      obtain ⟨e0, e1, _, _⟩ := Blk.two (a := .int .i64 V) (b := .slice R 1 c) (by simpa using K4)
      refine bodyPost_ret (v := .agg #[.int .i64 V, .slice R 1 c]) (by simp [results, Tryz.results51, go_sem, e0, e1]) rfl ⟨R, c, rfl, ?_, ?_⟩
      · have ho := own_far (own_far HST.out.own (own_blk_ne HST.out.own HST.out.b4 (by decide)) (p := ⟨w.heap.size, 0, none⟩) (.int .i64 V)) (own_blk_ne HST.out.own HST.out.b4 (by decide)) (p := ⟨w.heap.size, 1, none⟩) (.slice R 1 c)
        have := own_base ho (show w.heap.size ≤ w.heap.size + 2 by omega)
        simpa using this
      · exact below_far (below_far hbr (Nat.le_refl _) _ _) (Nat.le_refl _) _ _
end Go.Proofs.Tg.Sx
end
section
/- The program's powers of the coordinates of a point. -/
namespace Go.Proofs.Tg.Fi
open Go.RowKit Go.Rq Go.Qn Go.Bn Go.Proofs.Tg
set_option maxHeartbeats 8000000
set_option maxRecDepth 100000
/-- A row of texts. -/
structure TRow where
  A : Option Addr
  c : Nat
  qs : List Rat
def TRow.cell (r : TRow) : Value := .slice r.A r.qs.length r.c
def TRow.own (base : Nat) (w : World) (r : TRow) : Prop := w.ownsRow base 9 1 (.slice r.A r.qs.length r.c) r.qs.length (r.qs.map vq)
def pw (d : Nat) (x : Rat) : List Rat := (List.range (d + 1)).map fun e => x ^ e
def pwTo (k : Nat) (x : Rat) : List Rat := (List.range k).map fun e => x ^ e
theorem pwTo_succ (k : Nat) (x : Rat) : pwTo (k + 1) x = pwTo k x ++ [x ^ k] := by unfold pwTo; rw [List.range_succ, List.map_append]; rfl
/-- The heads of n rows: some done, one under way, the others not begun. -/
def heads (done : List TRow) (cur : Value) (n : Nat) : Array Value := (done.map TRow.cell ++ cur :: List.replicate (n - (done.length + 1)) (Value.slice none 0 0)).toArray
theorem heads_set (done : List TRow) (cur cur' : Value) (n : Nat) : (heads done cur n).setIfInBounds done.length cur' = heads done cur' n := by
  unfold heads
  rw [List.setIfInBounds_toArray, List.set_append_right _ _ (by simp), List.length_map, Nat.sub_self, List.set_cons_zero]
theorem heads_at (done : List TRow) (cur : Value) (n : Nat) : (heads done cur n)[done.length]? = some cur := by
  unfold heads
  rw [List.getElem?_toArray, List.getElem?_append_right (by simp), List.length_map, Nat.sub_self]; rfl
/-- Between two rows. -/
def heads2 (done : List TRow) (n : Nat) : Array Value := (done.map TRow.cell ++ List.replicate (n - done.length) (Value.slice none 0 0)).toArray
theorem heads2_open (done : List TRow) (n : Nat) (h : done.length < n) : heads2 done n = heads done (.slice none 0 0) n := by
  unfold heads2 heads
  rw [show n - done.length = (n - (done.length + 1)) + 1 by omega, List.replicate_succ]
theorem heads2_shut (done : List TRow) (r : TRow) (n : Nat) : heads done r.cell n = heads2 (done ++ [r]) n := by
  unfold heads2 heads
  congr 1
  rw [List.map_append, List.length_append]
  simp
theorem heads2_zero (n : Nat) : madeCells #[.slice none 0 0] n = heads2 [] n := by
  apply Array.ext
  · simp [heads2, size_madeCells]
  · intro i h1 h2
    simp [madeCells, heads2, Nat.mod_one]
theorem heads2_all (done : List TRow) : heads2 done done.length = (done.map TRow.cell).toArray := by simp [heads2]
theorem txtrow_info : (Tryz.prog.info? 22).map (fun i => (i.zero, i.size, i.bytes)) = some (some (.slice none 0 0), 1, 24) := by kernel_rfl
theorem make_txtrows (n : Nat) (hn : n ≤ 1000000) (w : World) : (Instr.makeSlice 33 (.int .i64 (n : Int)) (.int .i64 (n : Int))).run Tryz.prog w = .ok (.slice (some ⟨w.heap.size, 0, none⟩) n n) (w.alloc (.cells (madeCells #[.slice none 0 0] n) 22)) := by
  obtain ⟨i0, hi, hz0, hz1, hz2⟩ := info_parts txtrow_info
  have hr := run_make (P := Tryz.prog) w 33 22 i0 (.slice none 0 0) Tryz.underlying33 hi hz0 .i64 .i64 n n (by omega) (by omega) (by rw [hz2]; omega) (by omega)
  rw [hz1, Nat.mul_one, Int.toNat_natCast] at hr
  exact hr
theorem own_str_far {w : World} {g base : Nat} {cs : Array Value} {r : TRow} (h : r.own base w) (B : Blk w g 22 cs) (i : Nat) (u : Value) : r.own base (w.setCell ⟨g, i, none⟩ u) :=
  own_far h (own_blk_ne h B (by decide)) u
/-- The powers of several numbers, in rows of the call's own. -/
structure PowsB (base : Nat) (w : World) (g : Nat) (d : Nat) (xs : List Rat) (rows : List TRow) : Prop where
  ge : base ≤ g
  hd : Blk w g 22 (rows.map TRow.cell).toArray
  eq : rows.map TRow.qs = xs.map (pw d)
  own : ∀ r ∈ rows, r.own base w
theorem PowsB.keep {base : Nat} {w w' : World} {g d : Nat} {xs : List Rat} {rows : List TRow} (h : PowsB base w g d xs rows) (hb : Below w.heap.size w w') : PowsB base w' g d xs rows :=
  ⟨h.ge, h.hd.keep hb h.hd.lt, h.eq, fun r hr => own_below (h.own r hr) hb (Nat.le_refl _)⟩
theorem PowsB.far {base : Nat} {w : World} {g d b : Nat} {xs : List Rat} {rows : List TRow} (h : PowsB base w g d xs rows) (hb : b < base) (i : Nat) (u : Value) : PowsB base (w.setCell ⟨b, i, none⟩ u) g d xs rows :=
  ⟨h.ge, h.hd.far (by have := h.ge; simp; omega) _, h.eq, fun r hr => own_far (h.own r hr) (fun e => by have := ((h.own r hr).lt _ e.symm).1; simp only at this; omega) u⟩
theorem PowsB.at {base : Nat} {w : World} {g d : Nat} {xs : List Rat} {rows : List TRow} (h : PowsB base w g d xs rows) {j : Nat} (hj : j < xs.length) : ∃ R c, w.cell? ⟨g, j, none⟩ = some (.slice R (d + 1) c) ∧ Txts w R (pw d xs[j]) := by
  have hl : rows.length = xs.length := by have := congrArg List.length h.eq; simpa using this
  have hj2 : j < rows.length := by omega
  have hq : rows[j].qs = pw d xs[j] := by
    have h1 : (rows.map TRow.qs)[j]? = (xs.map (pw d))[j]? := by rw [h.eq]
    simpa [hj, hj2] using h1
  have hql : rows[j].qs.length = d + 1 := by rw [hq]; simp [pw]
  refine ⟨rows[j].A, rows[j].c, ?_, ?_⟩
  · rw [h.hd.cell j]
    simp [hj2, TRow.cell, hql]
  · rw [← hq]; exact Sl.own (h.own _ (List.getElem_mem hj2))
theorem pw_at (d : Nat) (x : Rat) {e : Nat} (he : e ≤ d) : ∃ h : e < (pw d x).length, (pw d x)[e] = x ^ e := ⟨by simp [pw]; omega, by simp [pw]⟩
structure PwSt (w : World) (d g n : Nat) (xs : List Rat) (wr : World) (j : Nat) (done : List TRow) : Prop where
  below : Below w.heap.size w wr
  hd : Blk wr g 22 (heads2 done n)
  own : ∀ r ∈ done, r.own w.heap.size wr
  eq : done.map TRow.qs = (xs.take j).map (pw d)
structure PwIn (w w0 : World) (g n : Nat) (wr : World) (done : List TRow) (r : TRow) : Prop where
  below : Below w.heap.size w wr
  size : w0.heap.size ≤ wr.heap.size
  hd : Blk wr g 22 (heads done r.cell n)
  own : ∀ r ∈ done, r.own w.heap.size wr
  cur : r.own w0.heap.size wr
def RetPows (d : Nat) (xs : List Rat) (w : World) (e : Ending) (w' : World) : Prop := ∃ g rows, e = .returned (.slice (some ⟨g, 0, none⟩) xs.length xs.length) ∧ PowsB w.heap.size w' g d xs rows ∧ Below w.heap.size w w'
theorem pows_q (X : Option Addr) (cx d : Nat) (xs : List Rat) (w : World) (hX : Txts w X xs) (hs : ∀ x ∈ xs, Sh x ∧ ∀ e, e ≤ d → Sh (x ^ e)) (hn : xs.length ≤ 1000) (hd : d ≤ 1000) (ht : PT w) :
    Calls Tryz.prog 39 #[.slice X xs.length cx, .int .i64 (d : Nat)] w (RetPows d xs w) := by
  obtain ⟨i0, hi, hz0, hz1, hz2⟩ := info_parts text_info
  obtain ⟨n, hn'⟩ : ∃ n, xs.length = n := ⟨_, rfl⟩
  have HX := Lib.hid hX
  have HSH := Lib.hid hs
  have HT := Lib.hid ht
  have hmk := make_txtrows n (by omega)
  obtain ⟨W, hW⟩ : ∃ W, w.alloc (.cells (madeCells #[.slice none 0 0] n) 22) = W := ⟨_, rfl⟩
  have HST : Hid (PwSt w d w.heap.size n xs W 0 []) := Lib.hid (by
    refine ⟨?_, ?_, fun r hr => absurd hr (by simp), by simp⟩
    · rw [← hW]; exact (Below.refl _ _).alloc (Nat.le_refl _) _
    · rw [← hW, ← heads2_zero n]; exact Blk.new _ _ _)
  unfold RetPows
  rw [hn'] at hn ⊢
  have HN := Lib.hid hn'
  have HWW := Lib.hid hW
  clear hX hs ht hn' hW
  go_enter Tryz.func39, Tryz.ntmps39
  go_upto_region 2 with (fail)
  rw [HWW.out]
  go_wp2
  go_loopw [14] (fun s14 wr => ∃ (done : List TRow), s14 = .int .i64 (done.length : Nat) ∧ done.length ≤ n ∧ Hid (PwSt w d w.heap.size n xs wr done.length done)) (fun s14 _ => n - (intOf s14).toNat)
  case atStart => exact ⟨[], rfl, Nat.zero_le _, HST⟩
  case round =>
    clear HST
    obtain ⟨wo, rfl⟩ : ∃ wo : World, wo = wr := ⟨_, rfl⟩
    obtain ⟨done, rfl, hk, HST⟩ := hrel
    obtain ⟨k, hkk⟩ : ∃ k, done.length = k := ⟨_, rfl⟩
    rw [hkk] at hk ⊢
    have HK := Lib.hid hkk
    clear hkk
    by_cases hkn : k = n
    · have e1 : decide ((k : Int) < (n : Int)) = false := decide_eq_false (by omega)
      have e1' : decide (k < n) = false := decide_eq_false (by omega)
      have HKN := Lib.hid hkn
      clear hkn
      go_wp2
      go_ret
      have h := HST.out
      have hB := h.hd
      have hdl : done.length = n := by rw [HK.out]; exact HKN.out
      rw [← hdl, heads2_all] at hB
      refine ⟨w.heap.size, done, rfl, ⟨Nat.le_refl _, hB, ?_, h.own⟩, h.below⟩
      rw [h.eq, hdl, ← HN.out, List.take_length]
    · have hkl : k < n := by omega
      have e1 : decide ((k : Int) < (n : Int)) = true := decide_eq_true (by omega)
      have e1' : decide (k < n) = true := decide_eq_true hkl
      have q0 : (0 : Int) ≤ (k : Int) := by omega
      have q1 : (k : Int) < (n : Int) := by omega
      have hkx : k < xs.length := by rw [HN.out]; exact hkl
      obtain ⟨ad, rfl, hc⟩ := Txts.at (HX.out.keep HST.out.below) hkx
      have HTK : Hid (xs.take (k + 1) = xs.take k ++ [xs[k]'hkx]) := Lib.hid (List.take_succ_eq_append_getElem hkx)
      have HSX := Lib.hid (HSH.out (xs[k]'hkx) (List.getElem_mem _))
      generalize xs[k]'hkx = x at *
      have hgw : w.heap.size < wo.heap.size := HST.out.hd.lt
      have HIN : Hid (PwIn w wo w.heap.size n wo done ⟨none, 0, []⟩) := Lib.hid (by
        have h := HST.out
        refine ⟨h.below, Nat.le_refl _, ?_, h.own, World.ownsRow_nil _ _ _ _⟩
        have := h.hd
        rw [heads2_open done n (by rw [HK.out]; exact hkl)] at this
        exact this)
      have HP0 : Hid (bs [49] = qtx (x ^ 0)) := Lib.hid (by
        rw [Rat.pow_zero, show (1 : Rat) = ((1 : Int) : Rat) from rfl, qtx_int]
        have : Lib.itoa 1 = [49] := by unfold Lib.itoa; rw [if_neg (by omega)]; exact dec_one
        rw [this])
      obtain ⟨S, hS⟩ : ∃ S, qtx x = S := ⟨_, rfl⟩
      rw [hS] at hc
      have HSS := Lib.hid hS
      clear hkn hS
      go_wp2
      go_loopw [8, 21] (fun s8 s21 wr => ∃ (r : TRow) (U : ByteArray), s8 = .string U ∧ s21 = .int .i64 (r.qs.length : Nat) ∧ r.qs.length ≤ d + 1 ∧ Hid (U = qtx (x ^ r.qs.length)) ∧ Hid (r.qs = pwTo r.qs.length x) ∧ Hid (PwIn w wo w.heap.size n wr done r)) (fun _ s21 _ => d + 1 - (intOf s21).toNat)
      case atStart => exact ⟨⟨none, 0, []⟩, _, rfl, rfl, Nat.zero_le _, HP0, Lib.hid rfl, HIN⟩
      case round =>
        clear HIN hc
        obtain ⟨wi, rfl⟩ : ∃ wi : World, wi = wr := ⟨_, rfl⟩
        obtain ⟨r, U, rfl, rfl, hr, HU, HQ, HPI⟩ := hrel
        obtain ⟨m, hm⟩ : ∃ m, r.qs.length = m := ⟨_, rfl⟩
        rw [hm] at hr HU HQ ⊢
        have HM := Lib.hid hm
        clear hm
        by_cases hmd : m = d + 1
        · have e2 : decide ((m : Int) < (d : Int) + 1) = false := decide_eq_false (by omega)
          have HMD := Lib.hid hmd
          clear hmd
          go_wp2
          go_roundw
          case rel =>
            refine ⟨done ++ [r], by rw [List.length_append, HK.out]; go_num, by rw [List.length_append, HK.out]; simp; omega, Lib.hid ⟨HPI.out.below, ?_, ?_, ?_⟩⟩
            · rw [← heads2_shut]; exact HPI.out.hd
            · intro r' hr'
              rcases List.mem_append.1 hr' with hr' | hr'
              · exact HPI.out.own r' hr'
              · rw [List.mem_singleton.1 hr']; exact own_base HPI.out.cur (Nat.le_of_lt hgw)
            · rw [List.length_append, HK.out, List.length_singleton, HTK.out, List.map_append, List.map_append]
              have := HST.out.eq
              rw [HK.out] at this
              rw [this, List.map_cons, List.map_nil, List.map_cons, List.map_nil, HQ.out, HMD.out]
              rfl
          case measure => simp [intOf]; omega
        · have hmd2 : m < d + 1 := by omega
          have e2 : decide ((m : Int) < (d : Int) + 1) = true := decide_eq_true (by omega)
          have hB := HPI.out.hd
          have c0 : wi.cell? ⟨w.heap.size, k, none⟩ = some (.slice r.A m r.c) := by
            rw [hB.cell k, ← HK.out, heads_at]
            unfold TRow.cell
            rw [HM.out]
          have f0 := hB.frozen k
          have hsz := HPI.out.size
          have hcur := HPI.out.cur
          unfold TRow.own at hcur
          rw [HM.out] at hcur
          have hcurA := hcur.alloc (.cells #[.string U] 9)
          have hgs : w.heap.size < wi.heap.size := hB.lt
          clear hmd hB
          obtain ⟨rA, hrA⟩ : ∃ a, r.A = a := ⟨_, rfl⟩
          obtain ⟨rc, hrc⟩ : ∃ a, r.c = a := ⟨_, rfl⟩
          rw [hrA, hrc] at c0 hcur hcurA
          have HRA := Lib.hid hrA
          have HRC := Lib.hid hrc
          clear hrA hrc
          have HCA := Lib.hid hcurA
          go_wp2_with (first
            | (at_builtin; refine wpList_append_own_at _ rfl _ _ 22 rfl wo.heap.size 9 i0 _ 1 16 Tryz.underlying22 hi hz0 hz1 hz2 rfl (by decide) (.slice rA m rc) m _ rfl hcurA ⟨wi.heap.size, 0, none⟩ 1 1 [.string U] rfl rfl ?c1 ?c2 ?c3 ?c4 ?c5 ?_
               case c1 => exact cell_one_new _ _ _
               case c2 => simp [Value.oneCell']
               case c3 => simp only [maxLen]; omega
               case c4 => omega
               case c5 => simp; omega
               intro v' w5 hown' hgrow _ hat
               have hnb : some w.heap.size ≠ (Value.slice rA m rc).ownBlock := fun e => by have := (HCA.out.lt _ e.symm).1; omega
               have hal := Below.alloc (Below.refl wi.heap.size wi) (Nat.le_refl _) (.cells #[.string U] 9)
               have hB5 := (HPI.out.hd.keep hal HPI.out.hd.lt).grown hgrow hnb
               have c5 : w5.cell? ⟨w.heap.size, k, none⟩ = some (.slice rA m rc) := by
                 rw [hB5.cell k, ← HK.out, heads_at]
                 unfold TRow.cell
                 rw [HM.out, HRA.out, HRC.out]
               have f5 := hB5.frozen k
               obtain ⟨A2, cs2, hv2, _, _⟩ := Sl.of_own hown'
               subst hv2))
          have hbe5 : Below w.heap.size w w5 := (below_all HPI.out.below hal).grown hgrow (by have := (below_all HPI.out.below hal).size; exact this) (fun j hj => by have := (hcurA.lt j hj).1; omega)
          have hds : ∀ q ∈ done, q.own w.heap.size w5 := fun q hq => by
            have h1 := own_below (HPI.out.own q hq) hal (Nat.le_refl _)
            refine h1.kept hgrow ?_
            cases hob : (Value.slice q.A q.qs.length q.c).ownBlock with
            | none => exact .inl rfl
            | some b =>
              refine .inr (fun e => ?_)
              have h2 := ((HST.out.own q hq).lt b hob).2
              have h3 := (hcurA.lt b e.symm).1
              omega
          have HDS := Lib.hid hds
          have HB5 := Lib.hid hB5
          have HC5 := Lib.hid hown'
          have HBE := Lib.hid hbe5
          have hs5 : wo.heap.size ≤ w5.heap.size := by have := hgrow.size; simp at this; omega
          have HMU := Lib.hid (fun V (h : Below w.heap.size w V) => mul_q (x ^ m) x (HSX.out.2 m (by omega)) HSX.out.1 V (HT.out.keep h))
          rw [← HU.out, HSS.out] at HMU
          unfold RetTx at HMU
          have HPS : Hid (x ^ m * x = x ^ (m + 1)) := Lib.hid (Rat.pow_succ x m).symm
          rw [HPS.out] at HMU
          obtain ⟨U2, hU2⟩ : ∃ U2, qtx (x ^ (m + 1)) = U2 := ⟨_, rfl⟩
          rw [hU2] at HMU
          have HU2 := Lib.hid hU2
          clear hds hbe5 hal hcurA hcur hB5 hown' hgrow hat hU2 c0 f0
          have hbe6 : Below w.heap.size w (w5.setCell ⟨w.heap.size, k, none⟩ (.slice A2 (m + 1) cs2)) := below_far HBE.out (Nat.le_refl _) _ _
          have hlen : (r.qs ++ [x ^ m]).length = m + 1 := by rw [List.length_append, HM.out]; rfl
          have HIN2 : Hid (∀ V, Below (w5.setCell ⟨w.heap.size, k, none⟩ (.slice A2 (m + 1) cs2)).heap.size (w5.setCell ⟨w.heap.size, k, none⟩ (.slice A2 (m + 1) cs2)) V → PwIn w wo w.heap.size n V done ⟨A2, cs2, r.qs ++ [x ^ m]⟩) := Lib.hid (fun V hV => by
            have hB6 := HB5.out.set k (.slice A2 (m + 1) cs2)
            rw [← HK.out, heads_set, HK.out] at hB6
            have hcell : TRow.cell ⟨A2, cs2, r.qs ++ [x ^ m]⟩ = .slice A2 (m + 1) cs2 := by unfold TRow.cell; rw [hlen]
            refine ⟨below_all hbe6 hV, ?_, ?_, ?_, ?_⟩
            · have h1 := hV.size
              have h2 : (w5.setCell ⟨w.heap.size, k, none⟩ (.slice A2 (m + 1) cs2)).heap.size = w5.heap.size := by simp [World.setCell]
              omega
            · rw [hcell]; exact hB6.keep hV hB6.lt
            · intro q hq
              exact own_below (own_str_far (HDS.out q hq) HB5.out k _) hV (Nat.le_refl _)
            · have h1 : TRow.own wo.heap.size w5 ⟨A2, cs2, r.qs ++ [x ^ m]⟩ := by
                unfold TRow.own
                rw [hlen, List.map_append]
                have h2 := HC5.out
                rw [show U = qtx (x ^ m) from HU.out] at h2
                exact h2
              exact own_below (own_str_far h1 HB5.out k _) hV (Nat.le_refl _))
          have HLEN := Lib.hid hlen
          clear hlen
          refine (HMU.out _ hbe6).mono ?_
          rintro e w7 ⟨rfl, hb7⟩
          go_wp2
          go_roundw
          case rel =>
            refine ⟨⟨A2, cs2, r.qs ++ [x ^ m]⟩, U2, rfl, by rw [HLEN.out]; go_num, by rw [HLEN.out]; omega, Lib.hid (by rw [HLEN.out, HU2.out]), Lib.hid (by rw [HLEN.out, pwTo_succ, ← HQ.out]), HIN2.out _ hb7⟩
          case measure => simp [intOf]; omega
end Go.Proofs.Tg.Fi
end
