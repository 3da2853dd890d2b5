/- Parts of the proof: RB6, QU4. -/
import Derived.Test.YtodjofbneeejpaaGreatDoorMBD13
import Derived.Test.YtodjofbneeejpaaGreatDoorMBD32
section
/- The reference 3: Pack. -/
namespace Go.Proofs.Tg.Rf
open Go.RowKit Go.Gr Go.Bn Go.Rq Go.Proofs.Tg
open Go.Proofs.Tg.Fi (QsAt vq texts_b RetTB)
set_option maxHeartbeats 4000000
set_option maxRecDepth 100000
/-- Rows that can be read. -/
structure RowsQ (w : World) (A : Option Addr) (L : Nat) (ms : List QRow) : Prop where
  sl : Sl w A ms.length 1 (ms.map QRow.cell)
  ok : ∀ r ∈ ms, QsAt w r.adr r.rs
  len : ∀ r ∈ ms, r.rs.length = L
theorem RowsQ.keep {w w' : World} {A : Option Addr} {L : Nat} {ms : List QRow} (h : RowsQ w A L ms) (hb : Below w.heap.size w w') : RowsQ w' A L ms := ⟨h.sl.keep hb, fun r hr => (h.ok r hr).keep hb, h.len⟩
theorem OwnM.rowsQ {base : Nat} {w : World} {A : Option Addr} {c L : Nat} {ms : List QRow} (h : OwnM base w A c ms) (hL : ∀ r ∈ ms, r.rs.length = L) : RowsQ w A L ms := ⟨Sl.own h.own, fun r hr => Fi.OwnQ.qs (h.ok r hr), hL⟩
/-- The texts of the first k rows. -/
def packTo (ms : List QRow) (k : Nat) : List Value := ((ms.take k).flatMap QRow.qs).map vq
theorem packTo_succ {ms : List QRow} {k : Nat} (h : k < ms.length) : packTo ms (k + 1) = packTo ms k ++ (ms[k].qs).map vq := by
 unfold packTo
 rw [List.take_succ_eq_append_getElem h, List.flatMap_append, List.map_append]
 simp
def RetPack (ms : List QRow) (L : Nat) (w : World) (e : Ending) (w' : World) : Prop :=
  ∃ E c, e = .returned (.agg #[.int .i64 (ms.length : Nat), .int .i64 (L : Nat), .slice E (ms.length * L) c]) ∧ w'.ownsRow w.heap.size 9 1 (.slice E (ms.length * L) c) (ms.length * L) (packTo ms ms.length) ∧ Below w.heap.size w w'
structure PkSt (w : World) (n L : Nat) (ms : List QRow) (wr : World) (k q : Nat) (E : Option Addr) (c : Nat) : Prop where
  own : wr.ownsRow w.heap.size 9 1 (.slice E q c) q (packTo ms k)
  below : Below w.heap.size w wr
  b0 : Blk wr w.heap.size 48 #[.int .i64 0, .int .i64 0, .slice none 0 0]
  b1 : Blk wr (w.heap.size + 1) 48 #[.int .i64 (n : Nat), .int .i64 (L : Nat), .slice E q c]
theorem txt_info : (Tryz.prog.info? 9).map (fun i => (i.zero, i.size, i.bytes)) = some (some (.string ⟨#[]⟩), 1, 16) := by kernel_rfl
theorem own_three {V : World} {base g sz n : Nat} {t t' : TypeId} {v : Value} {xs : List Value} {cs : Array Value} (h : V.ownsRow base t' sz v n xs) (B : Blk V g t cs) (hne : t' ≠ t) {a b c : Value} : (((V.setCell ⟨g, 0, none⟩ a).setCell ⟨g, 1, none⟩ b).setCell ⟨g, 2, none⟩ c).ownsRow base t' sz v n xs :=
  own_far (own_far (own_far h (own_blk_ne h B hne) a) (own_blk_ne h B hne) b) (own_blk_ne h B hne) c
theorem rpack3_any (A : Option Addr) (cA L : Nat) (ms : List QRow) (w : World) (hA : RowsQ w A L ms) (hS : ∀ r ∈ ms, ∀ x ∈ r.rs, Sh x.q) (h0 : 0 < ms.length) (hn : ms.length ≤ 1000) (hL0 : 0 < L) (hL : L ≤ 1000) :
    Calls Tryz.prog 40 #[.slice A ms.length cA] w (RetPack ms L w) := by
  have hmL : ms.length * L ≤ 1000000 := Nat.mul_le_mul hn hL
  obtain ⟨ad, rfl, hc0⟩ := Sl.at1 hA.sl h0
  have hl0 := hA.len ms[0] (List.getElem_mem _)
  have g0 : w.cell? (ad.add 0) = some (.slice ms[0].adr L ms[0].cap) := by rw [hc0]; simp [QRow.cell, hl0]
  rw [show ad.add 0 = ad by simp [Addr.add]] at g0
  obtain ⟨n, hn'⟩ : ∃ n, ms.length = n := ⟨_, rfl⟩
  have HA := Lib.hid hA
  have HS := Lib.hid hS
  have HPF : Hid (packTo ms ms.length = packTo ms n) := Lib.hid (by rw [hn'])
  have HRET : Hid (∀ (E : Option Addr) c w', w'.ownsRow w.heap.size 9 1 (.slice E (n * L) c) (n * L) (packTo ms n) → Below w.heap.size w w' → RetPack ms L w (.returned (.agg #[.int .i64 (n : Nat), .int .i64 (L : Nat), .slice E (n * L) c])) w') := Lib.hid (fun E c w' h1 h2 => ⟨E, c, by rw [hn'], by rw [hn']; exact h1, h2⟩)
  rw [hn'] at hmL h0 hn ⊢
  have HN := Lib.hid hn'
  obtain ⟨j0, hj0, hjz0, hjz1, hjz2⟩ := info_parts txt_info
  have i0 : (0 : Int) < (n : Int) := by omega
  have e0 : ((n : Int) == 0) = false := beq_eq_false_iff_ne.2 (by omega)
  have e0' : ((n : Int) = 0) = False := eq_false (by omega)
  have e0n : (n = 0) = False := eq_false (by omega)
  have e0nb : (n == 0) = false := beq_eq_false_iff_ne.2 (by omega)
  generalize ms[0].adr = a0 at *
  generalize ms[0].cap = c0 at *
  clear hA hS hc0 hl0 hn'
  go_enter Tryz.func40, Tryz.ntmps40
  go_upto_region 1 with (fail)
  obtain ⟨W0, hW0⟩ : ∃ W0, w.alloc (.cells #[.int .i64 0, .int .i64 0, .slice none 0 0] 48) = W0 := ⟨_, rfl⟩
  have B0 : Blk W0 w.heap.size 48 #[.int .i64 0, .int .i64 0, .slice none 0 0] := by rw [← hW0]; exact Blk.new _ _ _
  have hbW0 : Below w.heap.size w W0 := by rw [← hW0]; exact (Below.refl _ _).alloc (Nat.le_refl _) _
  have hsW0 : W0.heap.size = w.heap.size + 1 := by rw [← hW0]; simp
  rw [hW0]
  have g1 := keep_cell hbW0 g0
  clear hW0
  go_upto_region 4 with (fail)
  go_wp2
  go_loopw [4] (fun s4 wr => ∃ (k q : Nat) (E : Option Addr) (c : Nat), s4 = .int .i64 k ∧ k ≤ n ∧ Hid (q = k * L) ∧ q ≤ 1000000 ∧ Hid (PkSt w n L ms wr k q E c)) (fun s4 _ => n - (intOf s4).toNat)
  case atStart =>
   refine ⟨0, 0, none, 0, rfl, Nat.zero_le _, Lib.hid (by simp), by omega, Lib.hid ⟨World.ownsRow_nil _ _ _ _, ?_, ?_, ?_⟩⟩
   ·exact hbW0.alloc (by omega) _
   ·exact B0.alloc _
   ·have := Blk.new W0 48 #[.int .i64 (n : Nat), .int .i64 (L : Nat), .slice none 0 0]
    rw [hsW0] at this
    exact this
  case round =>
   obtain ⟨wo, rfl⟩ : ∃ wo : World, wo = wr := ⟨_, rfl⟩
   obtain ⟨k, q, E, c, rfl, hk, HQ, hq, HST⟩ := hrel
   have hbo := HST.out.below
   by_cases hkl : k < n
   ·have hkm : k < ms.length := by rw [HN.out]; exact hkl
    obtain ⟨ad', had, hc0⟩ := Sl.at1 (HA.out.keep hbo).sl hkm
    injection had with had
    subst had
    have hlk := HA.out.len ms[k] (List.getElem_mem _)
    have g2 : wo.cell? (ad.add k) = some (.slice ms[k].adr L ms[k].cap) := by rw [hc0]; simp [QRow.cell, hlk]
    have HTX : Hid (∀ V, Below wo.heap.size wo V → Calls Tryz.prog 73 #[.slice ms[k].adr L ms[k].cap] V fun e w' => ∃ g, e = .returned (.slice (some ⟨g, 0, none⟩) L L) ∧ Blk w' g 9 ((ms[k].qs).map vq).toArray ∧ wo.heap.size ≤ g ∧ Below wo.heap.size wo w') := Lib.hid (fun V h => by
     have := texts_b ms[k].adr ms[k].cap ms[k].rs V ((HA.out.ok _ (List.getElem_mem _)).keep (below_all hbo h)) (HS.out _ (List.getElem_mem _)) (by rw [hlk]; omega)
     rw [hlk] at this
     refine this.mono ?_
     rintro e w' ⟨g, rfl, hB, hg, hb⟩
     refine ⟨g, ?_, hB, Nat.le_trans h.size hg, below_all h hb⟩
     rw [List.length_map, hlk])
    have HQL : Hid ((ms[k].qs).length = L) := Lib.hid (by unfold QRow.qs; rw [List.length_map, hlk])
    have HPS := Lib.hid (packTo_succ hkm)
    have HQ2 : Hid (q + L = (k + 1) * L) := Lib.hid (by rw [Nat.succ_mul, ← HQ.out])
    have hq2 : q + L ≤ 1000000 := by
     have : (k + 1) * L ≤ n * L := Nat.mul_le_mul (by omega) (Nat.le_refl L)
     rw [HQ2.out]; omega
    clear hc0 hlk
    generalize ms[k].adr = rA at *
    generalize ms[k].cap = rC at *
    generalize ms[k].qs = qs at *
    have p0 : (0 : Int) ≤ (k : Int) := by omega
    have p1 : (k : Int) < (n : Int) := by omega
    have p3 : ((k : Int)).toNat = k := by omega
    have ec1 : decide ((k : Int) < (n : Int)) = true := decide_eq_true (by omega)
    have ec2 : decide (k < n) = true := decide_eq_true hkl
    have hown := HST.out.own
    have z20 := HST.out.b1.three.2.2.1
    have hl1 := HST.out.b1.lt
    have hs1 := hbo.size
    have hob : some (ad.add k).block ≠ (Value.slice E q c).ownBlock := by
     rw [add_block]
     intro e
     have h1 := (hown.lt ad.block e.symm).1
     have h2 := World.block_lt_of_cell? w _ g0
     omega
    go_upto_region 7 with (fail)
    have BZ : Below wo.heap.size wo wo.drew := (Below.refl _ _).drew
    refine wp_region_held_drew (S := (fun w' => w'.cell? (ad.add k) = some (.slice rA L rC))) (by kernel_rfl) (keep_cell BZ g2) (fun hHeld => ?_)
    generalize wo.drew = Z at *
    refine wpAnyH_get 0 (some 22) (.pointer (some ⟨w.heap.size + 1, 2, none⟩)) rfl rfl (by kernel_rfl) (by kernel_rfl) (by kernel_rfl) (fun _ _ _ h => h) (by rfl) hHeld ?_ ?_
    ·(intro w hSw; (try dsimp only at hSw); go_simp; all_goals (try with_reducible rfl))
    (try simp only [Act.put, List.setIfInBounds_toArray, List.set_cons_zero, List.set_cons_succ])
    refine wpAnyH_get 2 (some 24) (.slice (some ad) n cA) rfl rfl (by kernel_rfl) (by kernel_rfl) (by kernel_rfl) (fun _ _ _ h => h) (by rfl) hHeld ?_ ?_
    ·(intro w hSw; (try dsimp only at hSw); go_simp; all_goals (try with_reducible rfl))
    (try simp only [Act.put, List.setIfInBounds_toArray, List.set_cons_zero, List.set_cons_succ])
    refine wpAnyH_get 3 (some 25) (.int .i64 (k : Nat)) rfl rfl (by kernel_rfl) (by kernel_rfl) (by kernel_rfl) (fun _ _ _ h => h) (by rfl) hHeld ?_ ?_
    ·(intro w hSw; (try dsimp only at hSw); go_simp; all_goals (try with_reducible rfl))
    (try simp only [Act.put, List.setIfInBounds_toArray, List.set_cons_zero, List.set_cons_succ])
    refine wpAnyH_get 4 (some 26) (.pointer (some (ad.add k))) rfl rfl (by kernel_rfl) (by kernel_rfl) (by kernel_rfl) (fun _ _ _ h => h) (by rfl) hHeld ?_ ?_
    ·(intro w hSw; (try dsimp only at hSw); go_simp; all_goals (try with_reducible rfl))
    (try simp only [Act.put, List.setIfInBounds_toArray, List.set_cons_zero, List.set_cons_succ])
    refine wpAnyH_get 5 (some 27) (.slice rA L rC) rfl rfl (by kernel_rfl) (by kernel_rfl) (by kernel_rfl) (fun _ _ _ h => h) (by rfl) hHeld ?_ ?_
    ·(intro w hSw; (try dsimp only at hSw); go_simp; all_goals (try with_reducible rfl))
    (try simp only [Act.put, List.setIfInBounds_toArray, List.set_cons_zero, List.set_cons_succ])
    refine wpAnyH_ready (rs := [1, 6]) (by kernel_rfl) (by simp) ?_
    refine AllReadyH.cons rfl (fun K hK => ?_) (AllReadyH.cons rfl (fun K hK => ?_) AllReadyH.nil)
    ·have z2 := keep_cell BZ z20
     go_simp
     refine hK.out _ _ (keep_cell BZ g2) (fun hHeld => ?_)
     clear hK K z2
     have BZ1 := BZ
     generalize Z = Z1 at *
     (try simp only [Act.put, List.setIfInBounds_toArray, List.set_cons_zero, List.set_cons_succ])
     refine wpAnyH_ready (rs := [6]) (by kernel_rfl) (by simp) ?_
     refine AllReadyH.cons rfl (fun K hK => ?_) AllReadyH.nil
     go_simp
     refine (HTX.out _ BZ1).mono ?_
     rintro e Z2 ⟨g, rfl, hG, hgl, BZ2⟩
     (try go_simp)
     refine hK.out _ _ (keep_cell BZ2 g2) (fun hHeld => ?_)
     clear hK K
     (try simp only [Act.put, List.setIfInBounds_toArray, List.set_cons_zero, List.set_cons_succ])
     refine wpAnyH_ready (rs := [7]) (by kernel_rfl) (by simp) ?_
     refine AllReadyH.cons rfl (fun K hK => ?_) AllReadyH.nil
     have hown2 := own_below hown BZ2 (Nat.le_refl _)
     have hsz2 := BZ2.size
     have HNW : Hid (∀ j u, (qs.map vq)[j]? = some u → Z2.cell? ((⟨g, 0, none⟩ : Addr).add j) = some u) := Lib.hid (fun j u hu => by rw [add_lit, Nat.zero_add, hG.cell j]; simpa using hu)
     have HNL : Hid ((qs.map vq).length = L * 1) := Lib.hid (by rw [List.length_map, HQL.out, Nat.mul_one])
     refine step_append_lies _ (by rfl) _ _ 46 (by rfl) w.heap.size 9 j0 _ 1 16 Tryz.underlying46 hj0 hjz0 hjz1 hjz2 rfl (by decide) (.slice E q c) q (packTo ms k) (by simp [Act.eval]) hown2 ⟨g, 0, none⟩ L L (qs.map vq) (by simp [Act.eval]) HNL.out HNW.out (by intro u hu; obtain ⟨x, _, rfl⟩ := List.mem_map.1 hu; rfl) (by omega) (by simp only [maxLen]; omega) (by omega) (by omega) Z2.heap.size rfl ?_
     intro g3 cap Z3 hown3 hg3 _ _
     have r0 := hg3.cell (keep_cell BZ2 g2) hob
     have hB1 := (HST.out.b1.keep BZ2 hl1).grown hg3 (own_blk_ne hown2 (HST.out.b1.keep BZ2 hl1) (by decide))
     have hB0 := (HST.out.b0.keep BZ2 HST.out.b0.lt).grown hg3 (own_blk_ne hown2 (HST.out.b0.keep BZ2 HST.out.b0.lt) (by decide))
     have hb5 := below_all hbo BZ2
     have hb6 := hb5.grown hg3 hb5.size (fun k hk => (hown2.lt k hk).1)
     refine hK.out _ _ r0 (fun hHeld => ?_)
     clear hK K HNW hG
     (try simp only [Act.put, List.setIfInBounds_toArray, List.set_cons_zero, List.set_cons_succ])
     refine wpAnyH_get 8 (some 30) (.pointer (some ⟨w.heap.size + 1, 2, none⟩)) rfl rfl (by kernel_rfl) (by kernel_rfl) (by kernel_rfl) (fun _ _ _ h => h) (by rfl) hHeld ?_ ?_
     ·(intro w hSw; (try dsimp only at hSw); go_simp; all_goals (try with_reducible rfl))
     (try simp only [Act.put, List.setIfInBounds_toArray, List.set_cons_zero, List.set_cons_succ])
     refine wpAnyH_ready (rs := [9]) (by kernel_rfl) (by simp) ?_
     refine AllReadyH.cons rfl (fun K hK => ?_) AllReadyH.nil
     have HST3 : Hid (PkSt w n L ms (Z3.setCell ⟨w.heap.size + 1, 2, none⟩ (.slice (some ⟨g3, 0, none⟩) (q + L) cap)) (k + 1) (q + L) (some ⟨g3, 0, none⟩) cap) := Lib.hid (by
      refine ⟨?_, ?_, ?_, ?_⟩
      ·rw [HPS.out]
       exact own_far hown3 (own_blk_ne hown3 hB1 (by decide)) _
      ·exact below_far hb6 (by simp) _ _
      ·exact hB0.far (by simp) _
      ·exact hB1.set 2 _)
     have r9 : (Z3.setCell ⟨w.heap.size + 1, 2, none⟩ (.slice (some ⟨g3, 0, none⟩) (q + L) cap)).cell? (ad.add k) = some (.slice rA L rC) := by
      rw [World.cell?_setCell_other _ _ _ _ (fun e => by
       have h1 := congrArg Addr.block e
       rw [add_block] at h1
       have h2 := World.block_lt_of_cell? w _ g0
       simp only at h1
       omega)]
      exact r0
     obtain ⟨c0, c1, c2, f0, f1, f2⟩ := hB1.three
     go_simp
     refine hK.out _ _ r9 (fun hHeld => ?_)
     clear hK K
     (try simp only [Act.put, List.setIfInBounds_toArray, List.set_cons_zero, List.set_cons_succ])
     refine wpAnyH_done (by kernel_rfl) ?_ _
     go_wp2
     go_roundw
     case rel => exact ⟨k + 1, q + L, some ⟨g3, 0, none⟩, cap, by go_num, by omega, HQ2, hq2, HST3⟩
     case measure => simp [intOf]; omega
    ·go_simp
     refine (HTX.out _ BZ).mono ?_
     rintro e Z5 ⟨g, rfl, hG, hgl, BZ5⟩
     (try go_simp)
     refine hK.out _ _ (keep_cell BZ5 g2) (fun hHeld => ?_)
     clear hK K
     (try simp only [Act.put, List.setIfInBounds_toArray, List.set_cons_zero, List.set_cons_succ])
     refine wpAnyH_ready (rs := [1]) (by kernel_rfl) (by simp) ?_
     refine AllReadyH.cons rfl (fun K hK => ?_) AllReadyH.nil
     have z2 := keep_cell BZ5 z20
     go_simp
     refine hK.out _ _ (keep_cell BZ5 g2) (fun hHeld => ?_)
     clear hK K z2
     have BZ6 := BZ5
     generalize Z5 = Z6 at *
     (try simp only [Act.put, List.setIfInBounds_toArray, List.set_cons_zero, List.set_cons_succ])
     refine wpAnyH_ready (rs := [7]) (by kernel_rfl) (by simp) ?_
     refine AllReadyH.cons rfl (fun K hK => ?_) AllReadyH.nil
     have hown2 := own_below hown BZ6 (Nat.le_refl _)
     have hsz2 := BZ6.size
     have HNW : Hid (∀ j u, (qs.map vq)[j]? = some u → Z6.cell? ((⟨g, 0, none⟩ : Addr).add j) = some u) := Lib.hid (fun j u hu => by rw [add_lit, Nat.zero_add, hG.cell j]; simpa using hu)
     have HNL : Hid ((qs.map vq).length = L * 1) := Lib.hid (by rw [List.length_map, HQL.out, Nat.mul_one])
     refine step_append_lies _ (by rfl) _ _ 46 (by rfl) w.heap.size 9 j0 _ 1 16 Tryz.underlying46 hj0 hjz0 hjz1 hjz2 rfl (by decide) (.slice E q c) q (packTo ms k) (by simp [Act.eval]) hown2 ⟨g, 0, none⟩ L L (qs.map vq) (by simp [Act.eval]) HNL.out HNW.out (by intro u hu; obtain ⟨x, _, rfl⟩ := List.mem_map.1 hu; rfl) (by omega) (by simp only [maxLen]; omega) (by omega) (by omega) Z6.heap.size rfl ?_
     intro g3 cap Z7 hown3 hg3 _ _
     have r0 := hg3.cell (keep_cell BZ6 g2) hob
     have hB1 := (HST.out.b1.keep BZ6 hl1).grown hg3 (own_blk_ne hown2 (HST.out.b1.keep BZ6 hl1) (by decide))
     have hB0 := (HST.out.b0.keep BZ6 HST.out.b0.lt).grown hg3 (own_blk_ne hown2 (HST.out.b0.keep BZ6 HST.out.b0.lt) (by decide))
     have hb5 := below_all hbo BZ6
     have hb6 := hb5.grown hg3 hb5.size (fun k hk => (hown2.lt k hk).1)
     refine hK.out _ _ r0 (fun hHeld => ?_)
     clear hK K HNW hG
     (try simp only [Act.put, List.setIfInBounds_toArray, List.set_cons_zero, List.set_cons_succ])
     refine wpAnyH_get 8 (some 30) (.pointer (some ⟨w.heap.size + 1, 2, none⟩)) rfl rfl (by kernel_rfl) (by kernel_rfl) (by kernel_rfl) (fun _ _ _ h => h) (by rfl) hHeld ?_ ?_
     ·(intro w hSw; (try dsimp only at hSw); go_simp; all_goals (try with_reducible rfl))
     (try simp only [Act.put, List.setIfInBounds_toArray, List.set_cons_zero, List.set_cons_succ])
     refine wpAnyH_ready (rs := [9]) (by kernel_rfl) (by simp) ?_
     refine AllReadyH.cons rfl (fun K hK => ?_) AllReadyH.nil
     have HST3 : Hid (PkSt w n L ms (Z7.setCell ⟨w.heap.size + 1, 2, none⟩ (.slice (some ⟨g3, 0, none⟩) (q + L) cap)) (k + 1) (q + L) (some ⟨g3, 0, none⟩) cap) := Lib.hid (by
      refine ⟨?_, ?_, ?_, ?_⟩
      ·rw [HPS.out]
       exact own_far hown3 (own_blk_ne hown3 hB1 (by decide)) _
      ·exact below_far hb6 (by simp) _ _
      ·exact hB0.far (by simp) _
      ·exact hB1.set 2 _)
     have r9 : (Z7.setCell ⟨w.heap.size + 1, 2, none⟩ (.slice (some ⟨g3, 0, none⟩) (q + L) cap)).cell? (ad.add k) = some (.slice rA L rC) := by
      rw [World.cell?_setCell_other _ _ _ _ (fun e => by
       have h1 := congrArg Addr.block e
       rw [add_block] at h1
       have h2 := World.block_lt_of_cell? w _ g0
       simp only at h1
       omega)]
      exact r0
     obtain ⟨c0, c1, c2, f0, f1, f2⟩ := hB1.three
     go_simp
     refine hK.out _ _ r9 (fun hHeld => ?_)
     clear hK K
     (try simp only [Act.put, List.setIfInBounds_toArray, List.set_cons_zero, List.set_cons_succ])
     refine wpAnyH_done (by kernel_rfl) ?_ _
     go_wp2
     go_roundw
     case rel => exact ⟨k + 1, q + L, some ⟨g3, 0, none⟩, cap, by go_num, by omega, HQ2, hq2, HST3⟩
     case measure => simp [intOf]; omega
   ·obtain rfl : k = n := by omega
    have dk : decide ((k : Int) < (k : Int)) = false := by simp
    obtain ⟨z0, z1, z2, _⟩ := HST.out.b1.three
    obtain ⟨y0, y1, y2, f0, f1, f2⟩ := HST.out.b0.three
    have hown := HST.out.own
    rw [HQ.out] at hown
    have HQ' := HQ.out
    have hbk := HST.out.below
    have HO := Lib.hid hown
    have HB0 := Lib.hid HST.out.b0
    subst HQ'
    clear HST HQ hown
    go_wp2
    have B' := ((HB0.out.set 0 (.int .i64 (k : Nat))).set 1 (.int .i64 (L : Nat))).set 2 (.slice E (k * L) c)
    obtain ⟨t0, t1, t2, _⟩ := B'.three
    refine bodyPost_ret (v := .agg #[.int .i64 (k : Nat), .int .i64 (L : Nat), .slice E (k * L) c]) (by simp [results, Tryz.results40, go_sem, t0, t1, t2]) rfl (HRET.out E c _ ?_ ?_)
    ·exact own_three HO.out HB0.out (by decide)
    ·exact below_far (below_far (below_far hbk (by omega) _ _) (by omega) _ _) (by omega) _ _
end Go.Proofs.Tg.Rf
end
section
/- Queues: append of several elements in a plain region; two lists of lists joined. -/
namespace Go.Proofs.Tg
open Go.RowKit Go.Gr
set_option maxHeartbeats 1000000
section
variable {P : Program}
theorem wpList_que_app2 (w : World) {ops : Array Oper} {rest : List Oper} {o : Oper} {a : Act} {Q : Exit → Act → World → Prop} (hgd : o.guard = none) (s x : Operand) (t : TypeId)
    (ho : o.op = .call { callee := .builtin .append, args := #[s, x], argTypes := #[t, t] })
    (base : Nat) (e : TypeId) (i : TypeInfo) (z : Value) (bytes : Nat) (ht : P.underlying t = some (.slice e)) (hi : P.info? e = some i) (hz : i.zero = some z) (hsize : i.size = 1) (hby : i.bytes = bytes) (hzs : z.cells.size = 1)
    (v : Value) (xs : List Value) (hs : a.eval s = v) (hq : Que w base e v xs) (xv : Value) (m : Nat) (news : List Value) (hx : a.eval x = xv) (hs0 : Src P 1 t xv m news w) (h63 : xs.length + m ≤ maxLen) (hbytes : (xs.length + m) * bytes ≤ 140737488355328) (hbase : base ≤ w.heap.size)
    (h : ∀ v' w', Que w' base e v' (xs ++ news) → w.grownBy w' v.ownBlock → (v'.ownBlock = v.ownBlock ∨ v'.ownBlock = some w.heap.size) → wpList P ops Q rest (a.put o.dst v') w') : wpList P ops Q (o :: rest) a w :=
  wpList_plain hgd fun K hK => by
   obtain ⟨v', w', hr, h2, h3, h4⟩ := run_que_appends (P := P) w base t o.type e i z bytes ht hi hz hsize hby hzs v xs hq xv m news hs0 h63 hbytes hbase
   unfold Oper.wp execOp
   simp only [ho, resolve, invoke, builtin, Sem.run_bind, Sem.run_pure, Result.andThen_ok, List.map_toArray, List.map_cons, List.map_nil, hs, hx, hr]
   exact hK _ _ (h v' w' h2 h3 h4)
end
/-- The cells of a list of lists. -/
def lcells (f : Nat → Option Addr × Nat) (l : List (List Int)) : List Value := (List.range l.length).map fun i => .slice (f i).1 (l.getD i []).length (f i).2
theorem lcells_one (f : Nat → Option Addr × Nat) (l : List (List Int)) : ∀ u ∈ lcells f l, u.oneCell' = true := fun u hu => by
 obtain ⟨i, _, rfl⟩ := List.mem_map.1 hu
 rfl
theorem lcells_len (f : Nat → Option Addr × Nat) (l : List (List Int)) : (lcells f l).length = l.length := by simp [lcells]
/-- Two lists of lists, one behind the other. -/
theorem lists_cat {w : World} {V : Option Addr} {f g : Nat → Option Addr × Nat} {l b : List (List Int)} (hS : Sl w V (lcells f l ++ lcells g b).length 1 (lcells f l ++ lcells g b)) (hf : ∀ i, i < l.length → Ints w (f i).1 (l.getD i [])) (hg : ∀ i, i < b.length → Ints w (g i).1 (b.getD i [])) : Lists w V (l ++ b) := by
 refine ⟨fun i => if i < l.length then f i else g (i - l.length), ?_, fun i hi => ?_⟩
 ·have e : lcells f l ++ lcells g b = (List.range (l ++ b).length).map fun i => Value.slice ((fun i => if i < l.length then f i else g (i - l.length)) i).1 ((l ++ b).getD i []).length ((fun i => if i < l.length then f i else g (i - l.length)) i).2 := by
   refine List.ext_getElem (by simp [lcells]) fun i h1 h2 => ?_
   have hi : i < l.length + b.length := by simpa using h2
   by_cases h : i < l.length
   ·rw [List.getElem_append_left (by rw [lcells_len]; exact h)]
    simp [lcells, h, List.getElem?_append_left h]
   ·rw [List.getElem_append_right (by rw [lcells_len]; omega)]
    simp only [lcells_len]
    have h3 : i - l.length < b.length := by omega
    simp [lcells, h, h3, List.getElem?_append_right (show l.length ≤ i by omega)]
  have e2 := congrArg List.length e
  rw [← e]
  have e3 : (lcells f l ++ lcells g b).length = (l ++ b).length := by rw [List.length_append, List.length_append, lcells_len, lcells_len]
  rw [e3] at hS
  exact hS
 ·have hi' : i < l.length + b.length := by simpa using hi
  by_cases h : i < l.length
  ·have e1 : (l ++ b).getD i [] = l.getD i [] := by simp [List.getD_eq_getElem?_getD, List.getElem?_append_left h]
   simp only [if_pos h, e1]
   exact hf i h
  ·have e1 : (l ++ b).getD i [] = b.getD (i - l.length) [] := by simp [List.getD_eq_getElem?_getD, List.getElem?_append_right (show l.length ≤ i by omega)]
   simp only [if_neg h, e1]
   exact hg _ (by omega)
theorem Lists.cells {w : World} {V : Option Addr} {l : List (List Int)} (h : Lists w V l) : ∃ f, Sl w V l.length 1 (lcells f l) ∧ ∀ i, i < l.length → Ints w (f i).1 (l.getD i []) := h
end Go.Proofs.Tg
end
