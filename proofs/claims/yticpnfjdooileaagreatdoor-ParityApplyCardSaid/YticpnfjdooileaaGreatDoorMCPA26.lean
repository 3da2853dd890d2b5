/- Parts of the proof: LA1. -/
import Derived.Test.YticpnfjdooileaaGreatDoorMCPA8
import Derived.Test.YticpnfjdooileaaGreatDoorMCPA24
import Derived.Test.YticpnfjdooileaaGreatDoorMCPA25
section
/- The statement ParityApply. -/
namespace Go.Proofs.Tg
open Go.RowKit Go.Gr Go.Ev Go.Mo Go.Qn
set_option maxHeartbeats 4000000
set_option maxRecDepth 100000
theorem ret_apply_uni (s : List Int) (v : Int) (tv : List TV) (hs : ∀ t ∈ tv, t.exps.length ≤ 64) : ∃ (cc v1 : Int) (pl : List Term), pl.length ≤ tv.length ∧ (∀ x ∈ pl, x.2.length ≤ 64) ∧
    ∀ w e w', RetApply s v tv w e w' → Below w.heap.size w w' ∧ ∃ (O : Option Addr) (c : Nat) (ts : List TV), e = .returned (.tuple #[.agg #[.int .i64 v1, .slice O ts.length c], .int .i64 cc]) ∧ TermsAt w' O ts ∧ ts.map TV.pl = pl := by
  by_cases h1 : VldP v (tv.map TV.pl) ∧ bit01 s = true
  · by_cases h2 : (s.length : Int) = v
    · refine ⟨0, v, (tv.map TV.pl).map (appT s), by simp, fun x hx => ?_, ?_⟩
      · obtain ⟨y, hy, rfl⟩ := List.mem_map.1 hx
        obtain ⟨t, ht, rfl⟩ := List.mem_map.1 hy
        rw [appT_exps]
        exact hs t ht
      · rintro w e w' ⟨hb, h | h | h⟩
        · exact absurd h1 h.1
        · exact absurd h2 h.2.1
        · obtain ⟨_, _, O, c, ts, e1, e2, e3⟩ := h
          exact ⟨hb, O, c, ts, e1, e2, e3⟩
    · refine ⟨4, 0, [], by simp, by simp, ?_⟩
      rintro w e w' ⟨hb, h | h | h⟩
      · exact absurd h1 h.1
      · exact ⟨hb, none, 0, [], h.2.2, TermsAt.nil _ _, rfl⟩
      · exact absurd h.2.1 h2
  · refine ⟨1, 0, [], by simp, by simp, ?_⟩
    rintro w e w' ⟨hb, h | h | h⟩
    · exact ⟨hb, none, 0, [], h.2, TermsAt.nil _ _, rfl⟩
    · exact absurd h.1 h1
    · exact absurd h.1 h1
theorem law_apply (S : Option Addr) (cs : Nat) (s : List Int) (v : Int) (T : Option Addr) (cT : Nat) (tv : List TV) (w : World) (hS : Ints w S s) (hA : TermsAt w T tv) (hT : Tab w) :
    Calls Tryz.prog 5 #[.slice S s.length cs, .agg #[.int .i64 v, .slice T tv.length cT]] w fun e w' => e = .returned (.bool true) ∧ Below w.heap.size w w' := by
  obtain ⟨W, hW⟩ : ∃ W, w.alloc (.cells #[.int .i64 v, .slice T tv.length cT] 36) = W := ⟨_, rfl⟩
  have B3 : Blk W w.heap.size 36 #[.int .i64 v, .slice T tv.length cT] := by rw [← hW]; exact Blk.new _ _ _
  have hbW : Below w.heap.size w W := by rw [← hW]; exact (Below.refl _ _).alloc (Nat.le_refl _) _
  have HWW := Lib.hid hW
  clear hW
  obtain ⟨a0, a1, _, _⟩ := B3.two
  by_cases hl : s.length ≤ 10
  · have hd : decide ((10 : Int) < (s.length : Int)) = false := decide_eq_false (by omega)
    have hd' : decide (10 < s.length) = false := decide_eq_false (by omega)
    by_cases hf : PVal.few 8 8 ⟨v, T, cT, tv⟩
    · have HP := Lib.hid (fun V (h : Below w.heap.size w V) => spoly_any ⟨v, T, cT, tv⟩ 8 8 true V (hA.keep h) (iff_of_true rfl hf) (by omega) (by omega))
      have hn : tv.length ≤ 8 := hf.1
      have hz : ∀ t ∈ tv, t.coef.size ≤ 8 ∧ t.exps.length ≤ 64 := fun t ht => by have := hf.2 t ht; omega
      have H1 := Lib.hid (fun V (h : Below w.heap.size w V) => apply_any S cs s v T cT tv V (hS.keep h) (by omega) (hA.keep h) (by omega) (fun t ht => by have := hz t ht; omega) (hT.below h hT.1))
      have H2 := Lib.hid (fun V (h : Below w.heap.size w V) => rapply_any S cs s v T cT tv V (hS.keep h) (by omega) (hA.keep h) (by omega) hz)
      obtain ⟨cc, v1, pl, hp1, hp2, hu⟩ := ret_apply_uni s v tv (fun t ht => (hz t ht).2)
      have HU := Lib.hid hu
      have HP2 := Lib.hid hp2
      have HTB := Lib.hid (fun V (h : Below w.heap.size w V) => hT.below h hT.1)
      clear hf hz hu hp2 hS hA hT
      go_enter Tryz.func5, Tryz.ntmps5
      go_upto_region 1 with (fail)
      rw [HWW.out]
      go_wp2_with (fail)
      refine (HP.out _ hbW).mono ?_
      rintro e w1 ⟨rfl, hb1⟩
      have C3 := B3.keep hb1 B3.lt
      have hbC := below_all hbW hb1
      clear B3 hbW hb1 a0 a1
      obtain ⟨a0, a1, _, _⟩ := C3.two
      go_wp2_with (fail)
      refine (H1.out _ hbC).mono ?_
      intro e w2 hm
      obtain ⟨hb2, O1, c1, ts1, rfl, hT1, hpl1⟩ := HU.out _ _ _ hm
      have HL1 := Lib.hid hpl1
      clear hm hpl1
      go_upto_region 4 with (fail)
      obtain ⟨W2, hW2⟩ : ∃ W2, w2.alloc (.cells #[.int .i64 v1, .slice O1 ts1.length c1] 36) = W2 := ⟨_, rfl⟩
      have D5 : Blk W2 w2.heap.size 36 #[.int .i64 v1, .slice O1 ts1.length c1] := by rw [← hW2]; exact Blk.new _ _ _
      have hb22 : Below w2.heap.size w2 W2 := by rw [← hW2]; exact (Below.refl _ _).alloc (Nat.le_refl _) _
      rw [hW2]
      clear hW2
      have hT1 := hT1.keep hb22
      have hb2 := below_all hb2 hb22
      have D3 := C3.keep hb2 C3.lt
      have hbD := below_all hbC hb2
      clear C3 hbC hb2 hb22 a0 a1
      obtain ⟨a0, a1, _, _⟩ := D3.two
      go_wp2_with (fail)
      refine (H2.out _ hbD).mono ?_
      intro e w3 hm
      obtain ⟨hb3, O2, c2, ts2, rfl, hT2, hpl2⟩ := HU.out _ _ _ hm
      have HL2 := Lib.hid hpl2
      clear hm hpl2
      go_upto_region 5 with (fail)
      obtain ⟨W3, hW3⟩ : ∃ W3, w3.alloc (.cells #[.int .i64 v1, .slice O2 ts2.length c2] 36) = W3 := ⟨_, rfl⟩
      have E7 : Blk W3 w3.heap.size 36 #[.int .i64 v1, .slice O2 ts2.length c2] := by rw [← hW3]; exact Blk.new _ _ _
      have hb33 : Below w3.heap.size w3 W3 := by rw [← hW3]; exact (Below.refl _ _).alloc (Nat.le_refl _) _
      rw [hW3]
      clear hW3
      have hT2 := hT2.keep hb33
      have hb3 := below_all hb3 hb33
      have hT1 := hT1.keep hb3
      have E5 := D5.keep hb3 D5.lt
      have hbE := below_all hbD hb3
      clear D3 D5 hbD hb3 hb33 a0 a1
      obtain ⟨x0, x1, _, _⟩ := E5.two
      obtain ⟨y0, y1, _, _⟩ := E7.two
      have hl1 : ts1.length ≤ 8 := by have := congrArg List.length HL1.out; rw [List.length_map] at this; omega
      have hl2 : ts2.length ≤ 8 := by have := congrArg List.length HL2.out; rw [List.length_map] at this; omega
      have HQ := Lib.hid (polys_any ⟨v1, O1, c1, ts1⟩ ⟨v1, O2, c2, ts2⟩ true W3 hT1 hT2 (by simp [HL1.out, HL2.out]) (by simp only; omega) (by simp only; omega) (fun t ht => by
        have := HP2.out (TV.pl t) (by rw [← HL1.out]; exact List.mem_map_of_mem ht)
        simp only [TV.pl] at this
        omega))
      clear hT1 hT2
      go_wp2_with (fail)
      refine HQ.out.mono ?_
      rintro e w4 ⟨rfl, hb4⟩
      have hbF := below_all hbE hb4
      go_wp2_with (fail)
      refine (awake_any _ (HTB.out _ hbF)).mono ?_
      rintro e w5 ⟨rfl, hb5⟩
      go_wp2_with (fail)
      go_ret
      exact ⟨rfl, below_all hbF hb5⟩
    · have HP := Lib.hid (fun V (h : Below w.heap.size w V) => spoly_any ⟨v, T, cT, tv⟩ 8 8 false V (hA.keep h) (by simp only [Bool.false_eq_true, false_iff]; exact hf) (by omega) (by omega))
      have HTB := Lib.hid (fun V (h : Below w.heap.size w V) => hT.below h hT.1)
      clear hf
      go_enter Tryz.func5, Tryz.ntmps5
      go_upto_region 1 with (fail)
      rw [HWW.out]
      go_wp2_with (fail)
      refine (HP.out _ hbW).mono ?_
      rintro e w1 ⟨rfl, hb1⟩
      have hbC := below_all hbW hb1
      go_wp2_with (fail)
      refine (awake_any _ (HTB.out _ hbC)).mono ?_
      rintro e w5 ⟨rfl, hb5⟩
      go_wp2_with (fail)
      go_ret
      exact ⟨rfl, below_all hbC hb5⟩
  · have hd : decide ((10 : Int) < (s.length : Int)) = true := decide_eq_true (by omega)
    have hd' : decide (10 < s.length) = true := decide_eq_true (by omega)
    have HTB := Lib.hid (fun V (h : Below w.heap.size w V) => hT.below h hT.1)
    clear hl
    go_enter Tryz.func5, Tryz.ntmps5
    go_upto_region 1 with (fail)
    rw [HWW.out]
    go_wp2_with (fail)
    refine (awake_any _ (HTB.out _ hbW)).mono ?_
    rintro e w5 ⟨rfl, hb5⟩
    go_wp2_with (fail)
    go_ret
    exact ⟨rfl, below_all hbW hb5⟩
end Go.Proofs.Tg
end
