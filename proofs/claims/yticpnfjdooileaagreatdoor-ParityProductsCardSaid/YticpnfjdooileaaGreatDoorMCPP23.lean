/- Parts of the proof: WM2, WM3, WM4. -/
import Derived.Test.YticpnfjdooileaaGreatDoorMCPP5
import Derived.Test.YticpnfjdooileaaGreatDoorMCPP7
import Derived.Test.YticpnfjdooileaaGreatDoorMCPP10
import Derived.Test.YticpnfjdooileaaGreatDoorMCPP22
section
/- Walks: the product of two valid monomials. -/
namespace Go.Proofs.Tg
open Go.RowKit Go.Gr Go.Ev Go.Mo
set_option maxHeartbeats 4000000
set_option maxRecDepth 100000
theorem mulf_any (x y : Int) (w : World) : Calls Tryz.prog 37 #[.int .i64 x, .int .i64 y] w fun e w' => e = .returned (.int .i64 (wrap64 (x + y))) ∧ w = w' := by
  go_enter Tryz.func37, Tryz.ntmps37
  go_wp2
  go_ret
  exact ⟨rfl, rfl⟩
theorem vpair_ok (A B : Option Addr) (c d : Nat) (a b : List Int) (w : World) (hA : Ints w A a) (hB : Ints w B b) (hl : a.length = b.length) (ha : vldM a = true) (hb : vldM b = true) :
    Calls Tryz.prog 50 #[.slice A a.length c, .slice B b.length d] w fun e w' => e = .returned (.bool true) ∧ w = w' := by
  have h6 := (small_of_vld ha).1
  have HA := Lib.hid (valid_any A c a w hA (by omega))
  have HB := Lib.hid (valid_any B d b w hB (by omega))
  rw [ha] at HA
  rw [hb] at HB
  have he : ((a.length : Int) == (b.length : Int)) = true := by simp [hl]
  clear hl ha hb hA hB h6
  go_enter Tryz.func50, Tryz.ntmps50
  go_wp2_with (first
    | (go_at_call 14; with_reducible refine Calls.mono HA.out ?_; rintro e w' ⟨rfl, rfl⟩)
    | (go_at_call 14; with_reducible refine Calls.mono HB.out ?_; rintro e w' ⟨rfl, rfl⟩))
  go_ret
  exact ⟨rfl, rfl⟩
theorem addL_at {a b : List Int} (h : a.length = b.length) {k : Nat} (hk : k < a.length) : (addL a b)[k]'(by rw [addL_len h]; exact hk) = a[k] + b[k]'(by omega) := by simp [addL]
/-- The product, or none. -/
def RetMul (n : Nat) (s : List Int) (ok : Bool) (w : World) (e : Ending) (w' : World) : Prop := Below w.heap.size w w' ∧
  ((ok = false ∧ e = .returned (.tuple #[.slice none 0 0, .bool false])) ∨ (ok = true ∧ ∃ O co, e = .returned (.tuple #[.slice O n co, .bool true]) ∧ Ints w' O s))
theorem comb_ok (A B : Option Addr) (c d : Nat) (a b : List Int) (w : World) (hA : Ints w A a) (hB : Ints w B b) (hl : a.length = b.length) (ha : vldM a = true) (hb : vldM b = true) (ok : Bool) (hok : vldM (addL a b) = ok) :
    Calls Tryz.prog 36 #[.slice A a.length c, .slice B b.length d, .func (.func 37) #[] #[]] w (RetMul a.length (addL a b) ok w) := by
  have h6 := (small_of_vld ha).1
  have HAX := Lib.hid (small_of_vld ha).2
  have HBX := Lib.hid (small_of_vld hb).2
  have HVP := Lib.hid (vpair_ok A B c d a b w hA hB hl ha hb)
  have HAL := Lib.hid (addL_len hl)
  have HAT : Hid (∀ k (h1 : k < a.length) (h2 : k < b.length) (h3 : k < (addL a b).length), (addL a b)[k] = a[k] + b[k]) := Lib.hid (fun k h1 h2 h3 => addL_at hl h1)
  have HVD := Lib.hid (fun W (h : Ints W (some ⟨w.heap.size, 0, none⟩) (addL a b)) => valid_any (some ⟨w.heap.size, 0, none⟩) (addL a b).length (addL a b) W h (by rw [addL_len hl]; omega))
  have HL := Lib.hid hl
  have hmk := fun W => make_ints a.length a.length (Nat.le_refl _) (by omega) W
  rw [hok, addL_len hl] at HVD
  clear ha hb hl hok
  generalize addL a b = s at *
  go_enter Tryz.func36, Tryz.ntmps36
  go_wp2_with (go_at_call 50; refine HVP.out.mono ?_; rintro e w' ⟨rfl, rfl⟩)
  clear hmk
  go_loopw [20] (fun i wr => ∃ k : Nat, k ≤ a.length ∧ i = .int .i64 k ∧ Blk wr w.heap.size 3 (iarr (s.take k ++ List.replicate (a.length - k) 0)) ∧ Below w.heap.size w wr) (fun i _ => a.length - (intOf i).toNat)
  case atStart =>
    refine ⟨0, Nat.zero_le _, rfl, ?_, (Below.refl _ _).alloc (Nat.le_refl _) _⟩
    have e : iarr (s.take 0 ++ List.replicate (a.length - 0) 0) = madeCells #[.int .i64 0] a.length := (iarr_made a.length).symm
    rw [e]
    exact Blk.new w 3 _
  case round =>
    obtain ⟨wo, rfl⟩ : ∃ wo : World, wo = wr := ⟨_, rfl⟩
    obtain ⟨k, hk, rfl, B0, hbw⟩ := hrel
    by_cases hlt : k < a.length
    · obtain ⟨ad, rfl, hca⟩ := Ints.at (hA.keep hbw) hlt
      have hltb : k < b.length := by have := HL.out; omega
      obtain ⟨bd, rfl, hcb⟩ := Ints.at (hB.keep hbw) hltb
      have hx := HAX.out a[k] (List.getElem_mem _)
      have hy := HBX.out b[k] (List.getElem_mem _)
      have hl2 : (s.take k ++ List.replicate (a.length - k) 0).length = a.length := by
        have := HAL.out
        rw [List.length_append, List.length_take, List.length_replicate]; omega
      have HST : Hid ((s.take k ++ List.replicate (a.length - k) 0).set k (a[k] + b[k]) = s.take (k + 1) ++ List.replicate (a.length - (k + 1)) 0) := Lib.hid (fill_set _ k _ _ HAL.out hlt (HAT.out k hlt hltb (by rw [HAL.out]; exact hlt)))
      have c0 := B0.cell k
      have f0 := B0.frozen k
      rw [iarr_at _ (by rw [hl2]; exact hlt)] at c0
      generalize (s.take k ++ List.replicate (a.length - k) 0)[k]'(by rw [hl2]; exact hlt) = old at c0
      have HB0 := Lib.hid B0
      generalize b[k] = y at *
      generalize a[k] = x at *
      have HF := Lib.hid (fun W => mulf_any x y W)
      have hw : wrap64 (x + y) = x + y := by unfold wrap64; omega
      rw [hw] at HF
      have q0 : (0 : Int) ≤ (k : Int) := by omega
      have q1 : (k : Int) < (a.length : Int) := by omega
      have q2 : (k : Int) < (b.length : Int) := by omega
      have q3 : ((k : Int)).toNat = k := by omega
      clear B0 hl2 hw hx hy
      go_wp2_with (go_at_call 37; refine (HF.out _).mono ?_; rintro e w' ⟨rfl, rfl⟩)
      go_roundw
      case rel =>
        refine ⟨k + 1, by omega, by go_num, ?_, hbw.setCell (Nat.le_refl _) _⟩
        have := HB0.out.set k (.int .i64 (x + y))
        rw [iarr_set, HST.out] at this
        exact this
      case measure => simp [intOf]; omega
    · obtain rfl : k = a.length := by omega
      rw [Nat.sub_self, List.replicate_zero, List.append_nil, List.take_of_length_le (by rw [HAL.out]; omega)] at B0
      have hI := sl_new B0
      have HVD2 := Lib.hid (HVD.out wo hI)
      clear HVD B0
      cases ok with
      | true =>
        go_wp2_with (go_at_call 14; refine HVD2.out.mono ?_; rintro e w' ⟨rfl, rfl⟩)
        go_ret2
        exact ⟨hbw, .inr ⟨rfl, _, _, rfl, hI⟩⟩
      | false =>
        go_wp2_with (go_at_call 14; refine HVD2.out.mono ?_; rintro e w' ⟨rfl, rfl⟩)
        go_ret2
        exact ⟨hbw, .inl ⟨rfl, rfl⟩⟩
end Go.Proofs.Tg
end
section
/- Walks: the product of two valid monomials, by its name. -/
namespace Go.Proofs.Tg
open Go.RowKit Go.Gr Go.Ev Go.Mo
set_option maxHeartbeats 4000000
set_option maxRecDepth 100000
theorem mul_ok (A B : Option Addr) (c d : Nat) (a b : List Int) (w : World) (hA : Ints w A a) (hB : Ints w B b) (hl : a.length = b.length) (ha : vldM a = true) (hb : vldM b = true) (ok : Bool) (hok : vldM (addL a b) = ok) :
    Calls Tryz.prog 16 #[.slice A a.length c, .slice B b.length d] w (RetMul a.length (addL a b) ok w) := by
  have HC := Lib.hid (comb_ok A B c d a b w hA hB hl ha hb ok hok)
  clear hl ha hb hok hA hB
  go_enter Tryz.func16, Tryz.ntmps16
  go_wp2_with (fail)
  refine HC.out.mono ?_
  rintro e w1 ⟨hb1, ⟨h, rfl⟩ | ⟨h, O, co, rfl, hO⟩⟩
  · go_wp2_with (fail)
    go_ret2
    exact ⟨hb1, .inl ⟨h, rfl⟩⟩
  · go_wp2_with (fail)
    go_ret2
    exact ⟨hb1, .inr ⟨h, O, co, rfl, hO⟩⟩
end Go.Proofs.Tg
end
section
/- Walks: the coefficient of a monomial that no term has. -/
namespace Go.Proofs.Tg
open Go.RowKit Go.Gr Go.Ev Go.Mo
set_option maxHeartbeats 4000000
set_option maxRecDepth 100000
theorem coef_none (v : Int) (T : Option Addr) (cT : Nat) (tv : List TV) (M : Option Addr) (cm : Nat) (m : List Int) (w : World) (hA : TermsAt w T tv) (hM : Ints w M m) (hn : tv.length ≤ 4096) (hs : ∀ t ∈ tv, t.coef.size ≤ 19 ∧ t.exps.length ≤ 64)
    (hok : VldP v (tv.map TV.pl)) (hno : ∀ t ∈ tv, t.exps ≠ m) (hT : Tab w) :
    Calls Tryz.prog 19 #[.agg #[.int .i64 v, .slice T tv.length cT], .slice M m.length cm] w fun e w' => e = .returned (.string ⟨#[48]⟩) ∧ Below w.heap.size w w' := by
  have HV := Lib.hid (fun V (h : Below w.heap.size w V) => pvalid_any v T cT tv true V (hA.keep h) hn hs (iff_of_true rfl hok) (hT.below h hT.1))
  have HNO := Lib.hid hno
  have HSZ := Lib.hid hs
  have HA := Lib.hid hA
  have HM := Lib.hid hM
  clear hok hno hs hA hM
  obtain ⟨W, hW⟩ : ∃ W, w.alloc (.cells #[.int .i64 v, .slice T tv.length cT] 36) = W := ⟨_, rfl⟩
  have B3 : Blk W w.heap.size 36 #[.int .i64 v, .slice T tv.length cT] := by rw [← hW]; exact Blk.new _ _ _
  have hbW : Below w.heap.size w W := by rw [← hW]; exact (Below.refl _ _).alloc (Nat.le_refl _) _
  have HWW := Lib.hid hW
  clear hW
  obtain ⟨a0, a1, _, _⟩ := B3.two
  go_enter Tryz.func19, Tryz.ntmps19
  go_upto_region 1 with (fail)
  rw [HWW.out]
  go_wp2_with (fail)
  refine (HV.out _ hbW).mono ?_
  rintro e w1 ⟨rfl, hb1⟩
  have C3 := B3.keep hb1 B3.lt
  have hbC := below_all hbW hb1
  clear B3 hbW hb1 a0 a1 HV
  obtain ⟨a0, a1, _, _⟩ := C3.two
  go_wp2
  go_loopw [13] (fun s13 wr => ∃ k : Nat, s13 = .int .i64 k ∧ k ≤ tv.length ∧ Below w.heap.size w wr) (fun s13 _ => tv.length - (intOf s13).toNat)
  case atStart => exact ⟨0, rfl, Nat.zero_le _, hbC⟩
  case round =>
    clear C3 hbC a0 a1
    obtain ⟨wo, rfl⟩ : ∃ wo : World, wo = wr := ⟨_, rfl⟩
    obtain ⟨k, rfl, hk, hbr⟩ := hrel
    by_cases hkl : k < tv.length
    · obtain ⟨ad, rfl, hc0, hc1, hI⟩ := TermsAt.at (HA.out.keep hbr) hkl
      have hsk := HSZ.out tv[k] (List.getElem_mem _)
      have hnk := HNO.out tv[k] (List.getElem_mem _)
      have q0 : (0 : Int) ≤ (k : Int) := by omega
      have q1 : (k : Int) < (tv.length : Int) := by omega
      have q3 : ((k : Int)).toNat = k := by omega
      generalize tv[k] = t at *
      obtain ⟨cf, E, ce, el⟩ := t
      simp only at *
      have HEQ := Lib.hid (fun V (h : Below wo.heap.size wo V) => seq_any E M el m ce cm V (hI.keep h) (HM.out.keep (below_all hbr h)) (by omega) false (decide_eq_false hnk))
      clear hnk hsk
      go_upto_region 6 with (fail)
      obtain ⟨W3, hW3⟩ : ∃ W3, wo.alloc (.cells #[.string cf, .slice E el.length ce] 54) = W3 := ⟨_, rfl⟩
      have E9 : Blk W3 wo.heap.size 54 #[.string cf, .slice E el.length ce] := by rw [← hW3]; exact Blk.new _ _ _
      have hbE : Below wo.heap.size wo W3 := by rw [← hW3]; exact (Below.refl _ _).alloc (Nat.le_refl _) _
      rw [hW3]
      clear hW3 hc0 hc1 hI
      obtain ⟨x0, x1, _, _⟩ := E9.two
      go_wp2_with (fail)
      refine (HEQ.out _ hbE).mono ?_
      rintro e w4 ⟨rfl, hdr⟩
      go_wp2_with (fail)
      go_roundw
      case rel => exact ⟨k + 1, by go_num, by omega, below_all (below_all hbr hbE) hdr.below⟩
      case measure => simp [intOf]; omega
    · obtain rfl : k = tv.length := by omega
      go_wp2
      go_ret
      exact ⟨rfl, hbr⟩
end Go.Proofs.Tg
end
