/- Parts of the proof: LB1. -/
import Derived.Test.YtodapfjmgnekkaaGreatDoorMQ25
section
/- The statement SparsityBlocks, walked. -/
namespace Go.Proofs.Tg.Sx
open Go.RowKit Go.Gr Go.Sp Go.Ev Go.Mo Go.Qn
set_option maxHeartbeats 4000000
set_option maxRecDepth 100000
/-- The number of the round at which the loop ends. -/
noncomputable def bN (b S : List (List Int)) (hb : b.length ≤ 64) (K : Nat) : Nat := @dite _ (∃ m, (rnd b S hb).Final K m) (Classical.propDecidable _) (fun h => h.choose) (fun _ => 0)
theorem bN_eq {b S : List (List Int)} {hb : b.length ≤ 64} {K m : Nat} (h : (rnd b S hb).Final K m) : bN b S hb K = m := by
  unfold bN
  have he : ∃ m, (rnd b S hb).Final K m := ⟨m, h⟩
  rw [dif_pos he]
  exact he.choose_spec.uniq h
noncomputable def LB (p : PVal) (b : List (List Int)) (hb : b.length ≤ 64) (er K : Int) : List (List Int) := if er = 0 ∧ 1 ≤ K then (rnd b (kn p b) hb).B (bN b (kn p b) hb K.toNat - 1) else []
def EB (er K : Int) : Int := if er = 0 then (if 1 ≤ K then 0 else 3) else er
noncomputable def LS (p : PVal) (b : List (List Int)) (hb : b.length ≤ 64) (er : Int) : List (List Int) := if er = 0 then (rnd b (kn p b) hb).B (bN b (kn p b) hb bigK - 1) else []
noncomputable def NS (p : PVal) (b : List (List Int)) (hb : b.length ≤ 64) (er : Int) : Nat := if er = 0 then bN b (kn p b) hb bigK else 0
theorem LB_lens (p : PVal) (b : List (List Int)) (hb : b.length ≤ 64) (er K : Int) : (LB p b hb er K).length ≤ 64 ∧ ∀ l ∈ LB p b hb er K, l.length ≤ 64 := by
  unfold LB
  split
  · exact B_lens hb _
  · exact ⟨by simp, fun l hl => by cases hl⟩
theorem LS_lens (p : PVal) (b : List (List Int)) (hb : b.length ≤ 64) (er : Int) : (LS p b hb er).length ≤ 64 ∧ ∀ l ∈ LS p b hb er, l.length ≤ 64 := by
  unfold LS
  split
  · exact B_lens hb _
  · exact ⟨by simp, fun l hl => by cases hl⟩
theorem lists_none (w : World) : Lists w none [] := ⟨fun _ => (none, 0), Sl.nil _ _ _, fun i hi => by simp at hi⟩
theorem sb_one {p : PVal} {b : List (List Int)} {hb : b.length ≤ 64} {er K : Int} {w w' : World} {e : Ending} (h : RetSB p b hb er K w e w') : ∃ R c, e = .returned (.tuple #[.slice R (LB p b hb er K).length c, .int .i64 (EB er K)]) ∧ Lists w' R (LB p b hb er K) ∧ Below w.heap.size w w' := by
  obtain ⟨hbw, ⟨h1, h2⟩ | ⟨rfl, h1, h2⟩ | ⟨rfl, h1, m, R, c, h2, h3, h4⟩⟩ := h
  · have e1 : LB p b hb er K = [] := by unfold LB; rw [if_neg (fun h => h1 h.1)]
    have e2 : EB er K = er := by unfold EB; rw [if_neg h1]
    rw [e1, e2]
    exact ⟨none, 0, h2, lists_none _, hbw⟩
  · have e1 : LB p b hb 0 K = [] := by unfold LB; rw [if_neg (fun h => by omega)]
    have e2 : EB 0 K = 3 := by unfold EB; rw [if_pos rfl, if_neg (by omega)]
    rw [e1, e2]
    exact ⟨none, 0, h2, lists_none _, hbw⟩
  · have e1 : LB p b hb 0 K = (rnd b (kn p b) hb).B (m - 1) := by unfold LB; rw [if_pos ⟨rfl, h1⟩, bN_eq h2]
    have e2 : EB 0 K = 0 := by unfold EB; rw [if_pos rfl, if_pos h1]
    rw [e1, e2]
    exact ⟨R, c, h3, h4, hbw⟩
theorem ss_one {p : PVal} {b : List (List Int)} {hb : b.length ≤ 64} {er : Int} {w w' : World} {e : Ending} (h : RetSS p b hb er w e w') : ∃ R c, e = .returned (.tuple #[.slice R (LS p b hb er).length c, .int .i64 (NS p b hb er : Nat), .int .i64 er]) ∧ Lists w' R (LS p b hb er) ∧ Below w.heap.size w w' := by
  obtain ⟨hbw, ⟨h1, h2⟩ | ⟨rfl, m, R, c, h2, h3, h4⟩⟩ := h
  · have e1 : LS p b hb er = [] := by unfold LS; rw [if_neg h1]
    have e2 : NS p b hb er = 0 := by unfold NS; rw [if_neg h1]
    rw [e1, e2]
    exact ⟨none, 0, h2, lists_none _, hbw⟩
  · have e1 : LS p b hb 0 = (rnd b (kn p b) hb).B (m - 1) := by unfold LS; rw [if_pos rfl, bN_eq h2]
    have e2 : NS p b hb 0 = m := by unfold NS; rw [if_pos rfl, bN_eq h2]
    rw [e1, e2]
    exact ⟨R, c, h3, h4, hbw⟩
theorem law_blocks (p : PVal) (B : Option Addr) (cb : Nat) (b : List (List Int)) (K : Int) (w : World) (hP : TermsAt w p.adr p.tv) (hB : Lists w B b) (hT : Tab w) :
    Calls Tryz.prog 5 #[.agg #[.int .i64 p.vars, .slice p.adr p.tv.length p.cap], .slice B b.length cb, .int .i64 K] w fun e w' => e = .returned (.bool true) ∧ Below w.heap.size w w' := by
  obtain ⟨W, hW⟩ : ∃ W, w.alloc (.cells #[.int .i64 p.vars, .slice p.adr p.tv.length p.cap] 24) = W := ⟨_, rfl⟩
  have hbA : Below w.heap.size w W := by rw [← hW]; exact (Below.refl _ _).alloc (Nat.le_refl _) _
  have B0 : Blk W w.heap.size 24 #[.int .i64 p.vars, .slice p.adr p.tv.length p.cap] := by rw [← hW]; exact Blk.new _ _ _
  obtain ⟨sm, hsm⟩ : ∃ sm : Bool, sm = true ↔ p.few 8 8 ∧ b.length ≤ 10 ∧ ∀ l ∈ b, l.length ≤ 8 := by classical exact ⟨decide (p.few 8 8 ∧ b.length ≤ 10 ∧ ∀ l ∈ b, l.length ≤ 8), decide_eq_true_iff⟩
  have HSM := Lib.hid (small16_any p B cb b sm W (hP.keep hbA) (hB.keep hbA) hsm)
  have HAW : Hid (∀ V, Below w.heap.size w V → Calls Tryz.prog 10 #[] V fun e w' => e = .returned (.bool true) ∧ Below V.heap.size V w') := Lib.hid (fun V h => awake_any V (hT.below h hT.1))
  have HWW := Lib.hid hW
  obtain ⟨c0, c1, _, _⟩ := B0.two
  cases sm with
  | false =>
    clear hsm hP hB hW
    generalize p.vars = P at *
    generalize p.adr = T at *
    generalize p.tv.length = L at *
    generalize p.cap = cT at *
    go_enter Tryz.func5, Tryz.ntmps5
    go_upto_region 1 with (fail)
    rw [HWW.out]
    go_wp2_with (first
      | (go_at_call 9; refine HSM.out.mono ?_; rintro e w1 ⟨rfl, hb1⟩
         have hb2 := below_all hbA hb1)
      | (go_at_call 10; refine (HAW.out _ hb2).mono ?_; rintro e w3 ⟨rfl, hb3⟩))
    go_ret
    exact ⟨rfl, below_all hb2 hb3⟩
  | true =>
    obtain ⟨hfew, hbl, hml⟩ := hsm.1 rfl
    obtain ⟨ok, hok⟩ : ∃ ok : Bool, ok = true ↔ p.ok := by classical exact ⟨decide p.ok, decide_eq_true_iff⟩
    have hbl64 : b.length ≤ 64 := by omega
    have hml2 : ∀ m ∈ b, m.length ≤ 1000 := fun m hm => by have := hml m hm; omega
    have hs8 : ∀ t ∈ p.tv, t.coef.size ≤ 8 ∧ t.exps.length ≤ 64 := fun t ht => by have := hfew.2 t ht; omega
    have HB1 := Lib.hid (fun V (h : Below w.heap.size w V) => (sblocks_any p B cb b ok V (hP.keep h) (few_small hfew) (hB.keep h) hbl64 hml2 hok (hT.below h hT.1) K).mono fun e w' h2 => sb_one h2)
    have HB2 := Lib.hid (fun V (h : Below w.heap.size w V) => (rblocks16_any p B cb b ok V (hP.keep h) hs8 (few_small hfew).1 (hB.keep h) hbl64 hml2 hok K).mono fun e w' h2 => sb_one h2)
    have HS1 := Lib.hid (fun V (h : Below w.heap.size w V) => (sstable_any p B cb b ok V (hP.keep h) (few_small hfew) (hB.keep h) hbl64 hml2 hok (hT.below h hT.1)).mono fun e w' h2 => ss_one h2)
    have HS2 := Lib.hid (fun V (h : Below w.heap.size w V) => (rstable16_any p B cb b ok V (hP.keep h) hs8 (few_small hfew).1 (hB.keep h) hbl64 hml2 hok).mono fun e w' h2 => ss_one h2)
    generalize errS ok p.vars b = er at *
    have HL1 := Lib.hid (LB_lens p b hbl64 er K)
    have HL2 := Lib.hid (LS_lens p b hbl64 er)
    generalize LB p b hbl64 er K = l1 at *
    generalize LS p b hbl64 er = l2 at *
    generalize NS p b hbl64 er = nn at *
    generalize EB er K = z at *
    have hz : (z == z) = true := by simp
    have he : (er == er) = true := by simp
    have hnn : (((nn : Nat) : Int) == ((nn : Nat) : Int)) = true := by simp
    clear hsm hP hB hW hfew hml hml2 hok hs8
    generalize p.vars = P at *
    generalize p.adr = T at *
    generalize p.tv.length = L at *
    generalize p.cap = cT at *
    go_enter Tryz.func5, Tryz.ntmps5
    go_upto_region 1 with (fail)
    rw [HWW.out]
    clear HWW
    go_wp2_with (go_at_call 9; refine HSM.out.mono ?_; rintro e w1 ⟨rfl, hb1⟩
                 have C0 := B0.keep hb1 B0.lt
                 obtain ⟨d0, d1, _, _⟩ := C0.two
                 have hb2 := below_all hbA hb1)
    refine (HB1.out _ hb2).mono ?_
    rintro e w3 ⟨R1, r1, rfl, hL1, hb3⟩
    have D0 := C0.keep hb3 C0.lt
    have hb3 := below_all hb2 hb3
    obtain ⟨d0, d1, _, _⟩ := D0.two
    clear C0 hb2 hb1 hbA B0 c0 c1
    go_wp2_with (fail)
    refine (HB2.out _ hb3).mono ?_
    rintro e w4 ⟨R2, r2, rfl, hL2, hb4⟩
    have E0 := D0.keep hb4 D0.lt
    have hL1 := hL1.keep hb4
    have hb4 := below_all hb3 hb4
    obtain ⟨d0, d1, _, _⟩ := E0.two
    clear D0 hb3
    go_wp2_with (fail)
    refine (HS1.out _ hb4).mono ?_
    rintro e w5 ⟨R3, r3, rfl, hL3, hb5⟩
    have F0 := E0.keep hb5 E0.lt
    have hL1 := hL1.keep hb5
    have hL2 := hL2.keep hb5
    have hb5 := below_all hb4 hb5
    obtain ⟨d0, d1, _, _⟩ := F0.two
    clear E0 hb4
    go_wp2_with (fail)
    refine (HS2.out _ hb5).mono ?_
    rintro e w6 ⟨R4, r4, rfl, hL4, hb6⟩
    have hL1 := hL1.keep hb6
    have hL2 := hL2.keep hb6
    have hL3 := hL3.keep hb6
    have hb6 := below_all hb5 hb6
    clear F0 hb5 d0 d1
    have HQ1 : Hid (Calls Tryz.prog 14 #[.slice R1 l1.length r1, .slice R2 l1.length r2] w6 fun e w' => e = .returned (.bool true) ∧ Dr w6 w') := Lib.hid ((lists_any R1 R2 l1 l1 r1 r2 w6 hL1 hL2 (by have := HL1.out.1; omega) (fun l hl => by have := HL1.out.2 l hl; omega)).mono fun e w' h => ⟨by rw [h.1, decide_eq_true rfl], h.2⟩)
    have HQ2 : Hid (∀ V, Below w6.heap.size w6 V → Calls Tryz.prog 14 #[.slice R3 l2.length r3, .slice R4 l2.length r4] V fun e w' => e = .returned (.bool true) ∧ Dr V w') := Lib.hid (fun V h => (lists_any R3 R4 l2 l2 r3 r4 V (hL3.keep h) (hL4.keep h) (by have := HL2.out.1; omega) (fun l hl => by have := HL2.out.2 l hl; omega)).mono fun e w' h => ⟨by rw [h.1, decide_eq_true rfl], h.2⟩)
    clear hL1 hL2 hL3 hL4 HB1 HB2 HS1 HS2
    go_wp2_with (fail)
    refine HQ1.out.mono ?_
    rintro e w7 ⟨rfl, hd7⟩
    have hb7 := hd7.below
    go_wp2_with (fail)
    refine (HQ2.out _ hb7).mono ?_
    rintro e w8 ⟨rfl, hd8⟩
    have hb8 := below_all hb6 (below_all hb7 hd8.below)
    go_wp2_with (go_at_call 10; refine (HAW.out _ hb8).mono ?_; rintro e w9 ⟨rfl, hb9⟩)
    go_ret
    exact ⟨rfl, below_all hb8 hb9⟩
end Go.Proofs.Tg.Sx
end
