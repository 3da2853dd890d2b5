/- Parts of the proof: IL11, TX4, CN5, TX1, TX2, TX3. -/
import Derived.Maps.AppendAt
import Derived.Test.YtbgaiceakmmfdaaGreatDoorMMV2
import Derived.Test.YtbgaiceakmmfdaaGreatDoorMMV9
import Derived.Test.YtbgaiceakmmfdaaGreatDoorMMV13
import Derived.Test.YtbgaiceakmmfdaaGreatDoorMMV14
import Derived.Test.YtbgaiceakmmfdaaGreatDoorMMV23
section
/- Walks: the program's numbers on texts of any length: Valid. -/
namespace Go.Proofs.Tg
open Go.RowKit Go.Qn Go.Gr
set_option maxHeartbeats 4000000
set_option maxRecDepth 100000
theorem valid_w (s : ByteArray) (w : World) (hs : s.size ≤ 64) (hT : Tab w) :
    Calls Tryz.prog 23 #[.string s] w fun e w' => e = .returned (.bool (rd s.data.toList).isSome) ∧ Below w.heap.size w w' := by
  have HL := Lib.hid (len_size s)
  have HT := Lib.hid hT
  obtain ⟨bo, hbo⟩ : ∃ bo, (rd s.data.toList).isSome = bo := ⟨_, rfl⟩
  rw [hbo]
  have HBO := Lib.hid hbo
  clear hT hbo
  go_enter Tryz.func23, Tryz.ntmps23
  go_wp2_with (fail)
  refine (rshort_w s _ hs).mono ?_
  rintro e w1 ⟨hb1, rfl | ⟨b, n, d, hr, _, _, rfl⟩⟩
  rotate_left
  ·obtain rfl : bo = true := by rw [← HBO.out, hr]; rfl
   clear hr
   generalize sg b n = z
   go_wp2
   go_ret
   exact ⟨rfl, hb1.alloc hb1.size _⟩
  have hbA : Below w.heap.size w (w1.alloc (.cells #[.int .i64 0, .int .i64 0] 62)) := hb1.alloc hb1.size _
  clear hb1
  go_upto_region 4 with (fail)
  generalize w1.alloc (.cells #[.int .i64 0, .int .i64 0] 62) = W1 at *
  go_wp2_with (fail)
  refine (split_any s W1 hs).mono ?_
  rintro e w2 ⟨b, num, den, ok, rfl, HS, hb2⟩
  have hc := splitis_cases HS
  have hnl : num.length ≤ 64 := by have := HS.1; rw [HL.out] at this; omega
  have hdl : den.length ≤ 64 := by have := HS.2.1; rw [HL.out] at this; omega
  have hbB := below_all hbA hb2
  clear HS hbA hb2
  go_upto_region 5 with (fail)
  obtain ⟨W2, hW2⟩ : ∃ W2, w2.alloc (.cells #[.bool b, .string (bs num), .string (bs den)] 83) = W2 := ⟨_, rfl⟩
  have C4 : Blk W2 w2.heap.size 83 #[.bool b, .string (bs num), .string (bs den)] := by rw [← hW2]; exact Blk.new _ _ _
  have hbC : Below w.heap.size w W2 := by rw [← hW2]; exact hbB.alloc hbB.size _
  rw [hW2]
  clear hW2 hbB
  generalize w2.heap.size = gf at *
  obtain ⟨p0, p1, p2, _, _, _⟩ := C4.three
  rcases hc with ⟨rfl, hr⟩ | ⟨rfl, n1, _, rfl, hr⟩ | ⟨rfl, n1, _, _, hdn, m1, v0, v1, hr⟩
  ·obtain rfl : bo = false := by rw [← HBO.out, hr]; rfl
   clear hr
   go_wp2
   go_ret
   exact ⟨rfl, hbC⟩
  ·obtain rfl : bo = true := by rw [← HBO.out, hr]; rfl
   have hbe : (bs []).toList.isEmpty = true := by rw [bs_toList]; rfl
   have hbe' : (bs []).toList = [] := by rw [bs_toList]
   clear hr n1
   go_wp2
   go_ret
   exact ⟨rfl, hbC⟩
  ·have hbe : (bs den).toList.isEmpty = false := by rw [bs_toList]; cases den; exact absurd rfl hdn; rfl
   have hbe' : ¬ (bs den).toList = [] := by rw [bs_toList]; exact hdn
   have hbo : bo = decide (Nat.gcd (val num) (val den) = 1) := by
    rw [← HBO.out, hr]
    by_cases h : Nat.gcd (val num) (val den) = 1
    ·rw [if_pos h, decide_eq_true h]; rfl
    ·rw [if_neg h, decide_eq_false h]; rfl
   have HBD := Lib.hid hbo
   have k1 : (Go.Bw.dg (val num)).length ≤ 64 := Nat.le_trans (Iw.dval_len (numOk_iff.1 n1).1) hnl
   have k2 : (Go.Bw.dg (val den)).length ≤ 64 := Nat.le_trans (Iw.dval_len (numOk_iff.1 m1).1) hdl
   have K1 : Hid (∀ V, Below W2.heap.size W2 V → Calls Tryz.prog 38 #[.string (bs num)] V (Iw.RetI false (val num) V)) := Lib.hid (fun V _ => by
    have := Iw.parse_w (bs num) V (by rw [bs_size]; omega) (by rw [bs_data]; exact (numOk_iff.1 n1).1)
    rwa [bs_data] at this)
   have K2 : Hid (∀ V, Below W2.heap.size W2 V → Calls Tryz.prog 38 #[.string (bs den)] V (Iw.RetI false (val den) V)) := Lib.hid (fun V _ => by
    have := Iw.parse_w (bs den) V (by rw [bs_size]; omega) (by rw [bs_data]; exact (numOk_iff.1 m1).1)
    rwa [bs_data] at this)
   have K3 : Hid (∀ V A B c d, Below W2.heap.size W2 V → Iw.NW V A c (val num) → Iw.NW V B d (val den) → Calls Tryz.prog 39 #[.agg #[.bool false, .slice A (Go.Bw.dg (val num)).length c], .agg #[.bool false, .slice B (Go.Bw.dg (val den)).length d]] V (Iw.RetI false (Nat.gcd (val num) (val den)) V)) := Lib.hid (fun V A B c d hV hA hB =>
    Iw.igcd_w A B c d _ _ false false V hA hB (by omega) (by omega) (by omega) ((HT.out.below hbC HT.out.1).below hV (Nat.lt_of_lt_of_le HT.out.1 hbC.size)))
   have K4 : Hid (∀ V A c, Iw.NW V A c (Nat.gcd (val num) (val den)) → Calls Tryz.prog 40 #[.agg #[.bool false, .slice A (Go.Bw.dg (Nat.gcd (val num) (val den))).length c]] V fun e w' => e = .returned (.bool bo) ∧ Below V.heap.size V w') := Lib.hid (fun V A c hA => by
    rw [HBD.out]
    exact Iw.isone_w A c _ V hA)
   unfold Iw.RetI at K1 K2 K3
   clear hr hbo HBD n1 m1 v0 v1 hdn k1 k2 HBO hnl hdl HL HT
   generalize val num = a at *
   generalize val den = bb at *
   generalize Nat.gcd a bb = G at *
   generalize (Go.Bw.dg a).length = la at *
   generalize (Go.Bw.dg bb).length = lb at *
   generalize (Go.Bw.dg G).length = lg at *
   go_upto_region 7 with (fail)
   have hbw : Below W2.heap.size W2 W2.drew := (Below.refl _ _).drew
   go_region_held3 (fun w' => w'.cell? ⟨gf, 1, none⟩ = some (.string (bs num)) ∧ w'.cell? ⟨gf, 2, none⟩ = some (.string (bs den))) (first | go_keep | exact ⟨keep_cell hbw p1, keep_cell hbw p2⟩)
     (first
       | (go_at_call 39; with_reducible refine Calls.mono (K3.out _ _ _ _ _ (by assumption) (by assumption) (by assumption)) ?_; rintro e w' ⟨A3, c3, rfl, hN3, hb9⟩; have hbw := below_all hbw hb9; clear hb9)
       | (go_at_call 40; with_reducible refine Calls.mono (K4.out _ _ _ (by assumption)) ?_; rintro e w' ⟨rfl, hb9⟩; have hbw := below_all hbw hb9; clear hb9)
       | (go_at_call 38; with_reducible refine Calls.mono (K1.out _ (by assumption)) ?_; rintro e w' ⟨A1, c1, rfl, hN1, hb9⟩; have hbw := below_all hbw hb9; (try have hN2 := hN2.keep hb9); clear hb9)
       | (go_at_call 38; with_reducible refine Calls.mono (K2.out _ (by assumption)) ?_; rintro e w' ⟨A2, c2, rfl, hN2, hb9⟩; have hbw := below_all hbw hb9; (try have hN1 := hN1.keep hb9); clear hb9))
   all_goals
     go_wp2
     go_ret
     exact ⟨rfl, below_all hbC hbw⟩
end Go.Proofs.Tg
end
section
/- Lists of texts of numbers: the program's numbers of any texts. -/
namespace Go.Proofs.Tg
open Go.RowKit Go.Qn Go.Gr
set_option maxHeartbeats 6400000
set_option maxRecDepth 100000
def okT (s : ByteArray) : Bool := (rd s.data.toList).isSome
theorem numbers_w (A : Option Addr) (c : Nat) (ss : List ByteArray) (w : World) (hA : Sl w A ss.length 1 (ss.map Value.string)) (hs : ∀ s ∈ ss, s.size ≤ 64) (hn : ss.length ≤ 1000000) (hT : Tab w) :
    Calls Tryz.prog 14 #[.slice A ss.length c] w fun e w' => e = .returned (.bool (ss.all okT)) ∧ Below w.heap.size w w' := by
  have HV : Hid (∀ s ∈ ss, ∀ V, Below w.heap.size w V → Calls Tryz.prog 23 #[.string s] V fun e w' => e = .returned (.bool (okT s)) ∧ Below V.heap.size V w') := Lib.hid (fun s h V hV => valid_w s V (hs s h) (hT.below hV hT.1))
  obtain ⟨n, hn'⟩ : ∃ n, ss.length = n := ⟨_, rfl⟩
  have HA := Lib.hid hA
  obtain ⟨r, hr⟩ : ∃ r, ss.all okT = r := ⟨_, rfl⟩
  rw [hr]
  have HR := Lib.hid hr
  rw [hn'] at hn ⊢
  have HN := Lib.hid hn'
  clear hs hA hn' hr hT
  go_enter Tryz.func14, Tryz.ntmps14
  go_wp2
  go_loopw [7] (fun s7 wr => ∃ k : Nat, s7 = .int .i64 (k : Nat) ∧ k ≤ n ∧ Hid (Below w.heap.size w wr ∧ ∀ s ∈ ss.take k, okT s = true)) (fun s7 _ => n - (intOf s7).toNat)
  case atStart => exact ⟨0, rfl, Nat.zero_le _, Lib.hid ⟨Below.refl _ _, by simp⟩⟩
  case round =>
   obtain ⟨wo, rfl⟩ : ∃ wo : World, wo = wr := ⟨_, rfl⟩
   obtain ⟨k, rfl, hk, HB⟩ := hrel
   by_cases hkn : k = n
   ·have e1 : decide ((k : Int) < (n : Int)) = false := decide_eq_false (by omega)
    have e1' : decide (k < n) = false := decide_eq_false (by omega)
    obtain rfl : r = true := by
     rw [← HR.out, List.all_eq_true]
     have := HB.out.2
     rwa [List.take_of_length_le (by rw [HN.out]; omega)] at this
    clear hkn
    go_wp2
    go_ret
    exact ⟨rfl, HB.out.1⟩
   ·have hkl : k < n := by omega
    have hks : k < ss.length := by rw [HN.out]; exact hkl
    have e1 : decide ((k : Int) < (n : Int)) = true := decide_eq_true (by omega)
    have e1' : decide (k < n) = true := decide_eq_true hkl
    obtain ⟨S, hS⟩ : ∃ S, ss[k] = S := ⟨_, rfl⟩
    have hSm : S ∈ ss := by rw [← hS]; exact List.getElem_mem hks
    obtain ⟨ad, rfl, hc0⟩ := Sl.at1 (HA.out.keep HB.out.1) (k := k) (by simpa using hks)
    have hc : wo.cell? (ad.add k) = some (.string S) := by simpa [hS] using hc0
    have HC := Lib.hid (HV.out S hSm wo HB.out.1)
    have HT : Hid (ss.take (k + 1) = ss.take k ++ [S]) := Lib.hid (by rw [List.take_succ_eq_append_getElem hks, hS])
    clear hkn hc0 hS
    cases hok : okT S with
    | true =>
      rw [hok] at HC
      have HOK := Lib.hid hok
      clear hok
      go_wp2_with (fail)
      refine HC.out.mono ?_
      rintro e w2 ⟨rfl, hb2⟩
      go_wp2
      go_roundw
      case rel =>
       refine ⟨k + 1, by go_num, by omega, Lib.hid ⟨below_all HB.out.1 hb2, ?_⟩⟩
       rw [HT.out]
       intro s h
       rcases List.mem_append.1 h with h | h
       ·exact HB.out.2 s h
       ·simp at h; subst h; exact HOK.out
      case measure => simp [intOf]; omega
    | false =>
      rw [hok] at HC
      obtain rfl : r = false := by
       rw [← HR.out]
       exact List.all_eq_false.2 ⟨S, hSm, by simp [hok]⟩
      clear hok
      go_wp2_with (fail)
      refine HC.out.mono ?_
      rintro e w2 ⟨rfl, hb2⟩
      go_wp2
      go_ret
      exact ⟨rfl, below_all HB.out.1 hb2⟩
end Go.Proofs.Tg
end
section
/- Of MomentsValid: the program's verdict on a functional of any texts. -/
namespace Go.Proofs.Tg
open Go.RowKit Go.Mm Go Go.Qn
set_option maxHeartbeats 8000000
set_option maxRecDepth 100000
theorem fval_aux (n d : Int) (A : Option Addr) (N c z : Nat) (b0 b2 q : Bool) (w : World) (hz : z ≤ 244140625) (hN : N ≤ 1000000) (hr : 1 ≤ n ∧ n ≤ 6) (hq : ((b0 && decide (z ≤ 1024)) && (b2 && decide (N = z))) = q)
    (HS : Hid (∀ V, Calls Tryz.prog 13 #[.int .i64 n, .int .i64 d] V fun e w' => e = .returned (.tuple #[.int .i64 (z : Nat), .bool b0]) ∧ Below V.heap.size V w'))
    (HN : Hid (∀ V, Below w.heap.size w V → Calls Tryz.prog 14 #[.slice A N c] V fun e w' => e = .returned (.bool b2) ∧ Hid (Below V.heap.size V w'))) :
    Calls Tryz.prog 8 #[.agg #[.int .i64 n, .int .i64 d, .slice A N c]] w fun e w' => e = .returned (.bool q) ∧ Below w.heap.size w w' := by
  obtain ⟨W, hW⟩ : ∃ W, w.alloc (.cells #[.int .i64 n, .int .i64 d, .slice A N c] 24) = W := ⟨_, rfl⟩
  have hbW : Below w.heap.size w W := by rw [← hW]; exact (Below.refl _ _).alloc (Nat.le_refl _) _
  have HBW := Lib.hid hbW
  have B1 : Blk W w.heap.size 24 #[.int .i64 n, .int .i64 d, .slice A N c] := by rw [← hW]; exact Blk.new _ _ _
  have HB1 := Lib.hid B1
  have HWW := Lib.hid hW
  have HQ := Lib.hid hq
  have k1 : decide (n < 1) = false := decide_eq_false (by omega)
  have k2 : decide ((6 : Int) < n) = false := decide_eq_false (by omega)
  have hb1 := HB1.out
  obtain ⟨x0, x1, x2, _, _, _⟩ := hb1.three
  clear hb1 hW hbW B1 hq hr
  by_cases h0 : b0 = false
  ·obtain rfl : q = false := by have := HQ.out; rw [h0] at this; simpa using this.symm
   subst h0
   clear HQ
   go_enter Tryz.func8, Tryz.ntmps8
   go_upto_region 1 with (fail)
   rw [HWW.out]
   go_wp2_with (go_at_call 13; refine (HS.out _).mono ?_; rintro e w2 ⟨rfl, hb2⟩; have HB2 := Lib.hid (below_all HBW.out hb2); have Y := HB1.out.keep hb2 HB1.out.lt; obtain ⟨x0, x1, x2, _, _, _⟩ := Y.three; clear hb2)
   exact bodyPost_ret (v := .bool false) (by simp [results, Tryz.results8, go_sem]) rfl ⟨rfl, HB2.out⟩
  obtain rfl : b0 = true := by simpa using h0
  clear h0
  by_cases hz1 : z ≤ 1024
  case neg =>
   have e1 : decide ((z : Int) ≤ 1024) = false := decide_eq_false (by omega)
   have e1' : decide (z ≤ 1024) = false := decide_eq_false hz1
   obtain rfl : q = false := by have := HQ.out; rw [e1'] at this; simpa using this.symm
   clear HQ
   go_enter Tryz.func8, Tryz.ntmps8
   go_upto_region 1 with (fail)
   rw [HWW.out]
   go_wp2_with (go_at_call 13; refine (HS.out _).mono ?_; rintro e w2 ⟨rfl, hb2⟩; have HB2 := Lib.hid (below_all HBW.out hb2); have Y := HB1.out.keep hb2 HB1.out.lt; obtain ⟨x0, x1, x2, _, _, _⟩ := Y.three; clear hb2)
   exact bodyPost_ret (v := .bool false) (by simp [results, Tryz.results8, go_sem]) rfl ⟨rfl, HB2.out⟩
  have e1 : decide ((z : Int) ≤ 1024) = true := decide_eq_true (by omega)
  have e1' : decide (z ≤ 1024) = true := decide_eq_true hz1
  by_cases hz2 : N = z
  case neg =>
   have e2 : ((N : Int) == (z : Int)) = false := beq_eq_false_iff_ne.2 (by omega)
   have e2' : (N == z) = false := beq_eq_false_iff_ne.2 hz2
   have e3 : decide ((N : Int) = (z : Int)) = false := decide_eq_false (by omega)
   have e3' : decide (N = z) = false := decide_eq_false hz2
   obtain rfl : q = false := by have := HQ.out; rw [e3'] at this; simpa using this.symm
   clear HQ
   go_enter Tryz.func8, Tryz.ntmps8
   go_upto_region 1 with (fail)
   rw [HWW.out]
   go_wp2_with (go_at_call 13; refine (HS.out _).mono ?_; rintro e w2 ⟨rfl, hb2⟩; have HB2 := Lib.hid (below_all HBW.out hb2); have Y := HB1.out.keep hb2 HB1.out.lt; obtain ⟨x0, x1, x2, _, _, _⟩ := Y.three; clear hb2)
   exact bodyPost_ret (v := .bool false) (by simp [results, Tryz.results8, go_sem]) rfl ⟨rfl, HB2.out⟩
  ·subst hz2
   have e2 : ((N : Int) == (N : Int)) = true := by simp
   obtain rfl : b2 = q := by have := HQ.out; rw [e1'] at this; simpa using this
   clear HQ
   go_enter Tryz.func8, Tryz.ntmps8
   go_upto_region 1 with (fail)
   rw [HWW.out]
   go_wp2_with (first
     | (go_at_call 13; refine (HS.out _).mono ?_; rintro e w2 ⟨rfl, hb2⟩; have HB2 := Lib.hid (below_all HBW.out hb2); have Y := HB1.out.keep hb2 HB1.out.lt; obtain ⟨x0, x1, x2, _, _, _⟩ := Y.three; clear hb2)
     | (go_at_call 14; refine (HN.out _ HB2.out).mono ?_; rintro e w3 ⟨rfl, hb3⟩; have HB3 := Lib.hid (below_all HB2.out hb3.out); clear hb3))
   exact bodyPost_ret (v := .bool b2) (by simp [results, Tryz.results8, go_sem]) rfl ⟨rfl, HB3.out⟩
theorem fval_lo (n d : Int) (A : Option Addr) (N c : Nat) (w : World) (h : n < 1) :
    Calls Tryz.prog 8 #[.agg #[.int .i64 n, .int .i64 d, .slice A N c]] w fun e w' => e = .returned (.bool false) ∧ Below w.heap.size w w' := by
  obtain ⟨W, hW⟩ : ∃ W, w.alloc (.cells #[.int .i64 n, .int .i64 d, .slice A N c] 24) = W := ⟨_, rfl⟩
  have hbW : Below w.heap.size w W := by rw [← hW]; exact (Below.refl _ _).alloc (Nat.le_refl _) _
  have HBW := Lib.hid hbW
  have B1 : Blk W w.heap.size 24 #[.int .i64 n, .int .i64 d, .slice A N c] := by rw [← hW]; exact Blk.new _ _ _
  have HWW := Lib.hid hW
  have k1 : decide (n < 1) = true := decide_eq_true h
  obtain ⟨x0, x1, x2, _, _, _⟩ := B1.three
  clear hW hbW B1 h
  go_enter Tryz.func8, Tryz.ntmps8
  go_upto_region 1 with (fail)
  rw [HWW.out]
  go_wp2
  exact bodyPost_ret (v := .bool false) (by simp [results, Tryz.results8, go_sem]) rfl ⟨rfl, HBW.out⟩
theorem fval_hi (n d : Int) (A : Option Addr) (N c : Nat) (w : World) (h : 6 < n) :
    Calls Tryz.prog 8 #[.agg #[.int .i64 n, .int .i64 d, .slice A N c]] w fun e w' => e = .returned (.bool false) ∧ Below w.heap.size w w' := by
  obtain ⟨W, hW⟩ : ∃ W, w.alloc (.cells #[.int .i64 n, .int .i64 d, .slice A N c] 24) = W := ⟨_, rfl⟩
  have hbW : Below w.heap.size w W := by rw [← hW]; exact (Below.refl _ _).alloc (Nat.le_refl _) _
  have HBW := Lib.hid hbW
  have B1 : Blk W w.heap.size 24 #[.int .i64 n, .int .i64 d, .slice A N c] := by rw [← hW]; exact Blk.new _ _ _
  have HWW := Lib.hid hW
  have k1 : decide (n < 1) = false := decide_eq_false (by omega)
  have k2 : decide ((6 : Int) < n) = true := decide_eq_true h
  obtain ⟨x0, x1, x2, _, _, _⟩ := B1.three
  clear hW hbW B1 h
  go_enter Tryz.func8, Tryz.ntmps8
  go_upto_region 1 with (fail)
  rw [HWW.out]
  go_wp2
  exact bodyPost_ret (v := .bool false) (by simp [results, Tryz.results8, go_sem]) rfl ⟨rfl, HBW.out⟩
theorem fval_any (n d : Int) (A : Option Addr) (c : Nat) (ss : List ByteArray) (w : World) (hA : Sl w A ss.length 1 (ss.map Value.string)) (hs : ∀ s ∈ ss, s.size ≤ 64) (hn : ss.length ≤ 1000000) (hT : Tab w) :
    Calls Tryz.prog 8 #[.agg #[.int .i64 n, .int .i64 d, .slice A ss.length c]] w fun e w' => e = .returned (.bool (fvB n d ss)) ∧ Below w.heap.size w w' := by
  by_cases h1 : n < 1
  ·have e : fvB n d ss = false := by
    have : szB n d = false := by unfold szB; exact decide_eq_false fun x => by have := x.1.1; omega
    unfold fvB; rw [this]; rfl
   rw [e]
   exact fval_lo n d A ss.length c w h1
  by_cases h2 : 6 < n
  ·have e : fvB n d ss = false := by
    have : szB n d = false := by unfold szB; exact decide_eq_false fun x => by have := x.1.2.1; omega
    unfold fvB; rw [this]; rfl
   rw [e]
   exact fval_hi n d A ss.length c w h2
  have HN : Hid (∀ V, Below w.heap.size w V → Calls Tryz.prog 14 #[.slice A ss.length c] V fun e w' => e = .returned (.bool (ss.all fun s => (rd s.data.toList).isSome)) ∧ Hid (Below V.heap.size V w')) := Lib.hid (fun V hb => by
   refine (numbers_w A c ss V (hA.keep hb) hs hn (hT.below hb hT.1)).mono ?_
   rintro e w' ⟨h1, h2⟩
   exact ⟨h1, Lib.hid h2⟩)
  by_cases h3 : 0 ≤ d ∧ d ≤ 24
  ·obtain ⟨M, rfl⟩ : ∃ M : Nat, n = M := ⟨n.toNat, by omega⟩
   obtain ⟨D, rfl⟩ : ∃ D : Nat, d = D := ⟨d.toNat, by omega⟩
   have hin : inR (M : Int) (D : Int) := ⟨by omega, by omega, h3.1, h3.2⟩
   have e1 : szN (M : Int) (D : Int) = cnt M D := by unfold szN; rw [if_pos hin]; rfl
   have e2 : szB (M : Int) (D : Int) = decide (cnt M D ≤ 1024) := by
    unfold szB
    by_cases hc : cnt M D ≤ 1024
    ·rw [decide_eq_true hc]; exact decide_eq_true ⟨hin, hc⟩
    ·rw [decide_eq_false hc]; exact decide_eq_false fun x => hc x.2
   have hf : fvB (M : Int) (D : Int) ss = ((true && decide (cnt M D ≤ 1024)) && ((ss.all fun s => (rd s.data.toList).isSome) && decide (ss.length = cnt M D))) := by
    unfold fvB; rw [e1, e2, Bool.true_and]
   exact fval_aux (M : Int) (D : Int) A ss.length c (cnt M D) true _ _ w (cnt_fit (by omega) (by omega)) hn (by omega) hf.symm (Lib.hid (fun V => count_any M D (by omega) (by omega) V)) HN
  ·have hin : ¬ inR n d := by unfold inR; omega
   have e1 : szN n d = 0 := by unfold szN; rw [if_neg hin]
   have e2 : szB n d = false := by unfold szB; exact decide_eq_false fun x => hin x.1
   have hf : fvB n d ss = ((false && decide (0 ≤ 1024)) && ((ss.all fun s => (rd s.data.toList).isSome) && decide (ss.length = 0))) := by
    unfold fvB; rw [e2, e1]; rfl
   exact fval_aux n d A ss.length c 0 false _ _ w (by omega) hn (by omega) hf.symm (Lib.hid (fun V => count_bad n d V (by omega))) HN
end Go.Proofs.Tg
end
section
/- Lists of texts of numbers: numbers (the program), Texts (the harness). -/
namespace Go.Proofs.Tg.Fi
open Go.RowKit Go.Rq Go.Qn Go.Proofs.Tg
set_option maxHeartbeats 6400000
set_option maxRecDepth 100000
def vq (q : Rat) : Value := .string (qtx q)
/-- A slice of texts of numbers. -/
abbrev Txts (w : World) (A : Option Addr) (qs : List Rat) : Prop := Sl w A qs.length 1 (qs.map vq)
theorem Txts.at {w : World} {A : Option Addr} {qs : List Rat} (h : Txts w A qs) {k : Nat} (hk : k < qs.length) : ∃ ad, A = some ad ∧ w.cell? (ad.add k) = some (.string (qtx qs[k])) := by
 obtain ⟨ad, rfl, hc⟩ := Sl.at1 h hk
 exact ⟨ad, rfl, by simpa [vq] using hc⟩
theorem numbers_q (A : Option Addr) (c : Nat) (qs : List Rat) (w : World) (hA : Txts w A qs) (hs : ∀ q ∈ qs, Sh q) (hn : qs.length ≤ 1000000) :
    Calls Tryz.prog 14 #[.slice A qs.length c] w fun e w' => e = .returned (.bool true) ∧ Below w.heap.size w w' := by
  have HV := Lib.hid (fun q (h : q ∈ qs) W => valid_q q (hs q h) W)
  obtain ⟨n, hn'⟩ : ∃ n, qs.length = n := ⟨_, rfl⟩
  have HA := Lib.hid hA
  rw [hn'] at hn ⊢
  have HN := Lib.hid hn'
  clear hs hA hn'
  go_enter Tryz.func14, Tryz.ntmps14
  go_wp2
  go_loopw [7] (fun s7 wr => ∃ k : Nat, s7 = .int .i64 (k : Nat) ∧ k ≤ n ∧ Hid (Below w.heap.size w wr)) (fun s7 _ => n - (intOf s7).toNat)
  case atStart => exact ⟨0, rfl, Nat.zero_le _, Lib.hid (Below.refl _ _)⟩
  case round =>
   obtain ⟨wo, rfl⟩ : ∃ wo : World, wo = wr := ⟨_, rfl⟩
   obtain ⟨k, rfl, hk, HB⟩ := hrel
   by_cases hkn : k = n
   ·have e1 : decide ((k : Int) < (n : Int)) = false := decide_eq_false (by omega)
    have e1' : decide (k < n) = false := decide_eq_false (by omega)
    clear hkn
    go_wp2
    go_ret
    exact ⟨rfl, HB.out⟩
   ·have hkl : k < n := by omega
    have e1 : decide ((k : Int) < (n : Int)) = true := decide_eq_true (by omega)
    have e1' : decide (k < n) = true := decide_eq_true hkl
    obtain ⟨ad, rfl, hc⟩ := Txts.at (HA.out.keep HB.out) (k := k) (by rw [HN.out]; exact hkl)
    have HC := Lib.hid (HV.out (qs[k]'(by rw [HN.out]; exact hkl)) (List.getElem_mem _) wo)
    generalize qtx (qs[k]'(by rw [HN.out]; exact hkl)) = S at *
    clear hkn
    go_wp2_with (fail)
    refine HC.out.mono ?_
    rintro e w2 ⟨rfl, hb2⟩
    go_wp2
    go_roundw
    case rel => exact ⟨k + 1, by go_num, by omega, Lib.hid (below_all HB.out hb2)⟩
    case measure => simp [intOf]; omega
end Go.Proofs.Tg.Fi
end
section
/- Lists of texts that are being filled; Texts of the harness. -/
namespace Go.Proofs.Tg.Fi
open Go.RowKit Go.Rq Go.Qn Go.Bn Go.Proofs.Tg
set_option maxHeartbeats 6400000
set_option maxRecDepth 100000
/-- The first k of n texts are there. -/
def tpart (qs : List Rat) (n k : Nat) : Array Value := ((qs.take k).map vq ++ List.replicate (n - k) (Value.string ⟨#[]⟩)).toArray
theorem tpart_zero (qs : List Rat) (n : Nat) : madeCells #[.string ⟨#[]⟩] n = tpart qs n 0 := by
 apply Array.ext
 ·simp [tpart, size_madeCells]
 ·intro i h1 h2
  simp [madeCells, tpart, Nat.mod_one]
theorem tpart_all {qs : List Rat} {n : Nat} (h : qs.length = n) : tpart qs n n = (qs.map vq).toArray := by
 subst h
 simp [tpart]
theorem tpart_set {qs : List Rat} {n k : Nat} (h : qs.length = n) (hk : k < n) : (tpart qs n k).setIfInBounds k (.string (qtx (qs[k]'(by omega)))) = tpart qs n (k + 1) := by
 unfold tpart
 rw [List.take_succ_eq_append_getElem (by omega), show n - k = (n - (k + 1)) + 1 by omega, List.replicate_succ]
 have e : ((qs.take k).map vq).length = k := by simp; omega
 simp only [List.setIfInBounds_toArray, List.map_append]
 congr 1
 rw [List.set_append_right _ _ (by omega), e, Nat.sub_self, List.set_cons_zero]
 simp [vq]
theorem tpart_at {qs : List Rat} {n k : Nat} (h : qs.length = n) (hk : k < n) : ∃ u, (tpart qs n k)[k]? = some u := by
 refine ⟨_, Array.getElem?_eq_getElem ?_⟩
 simp [tpart]; omega
theorem txts_of {w : World} {g : Nat} {qs : List Rat} (h : Blk w g 9 (qs.map vq).toArray) : Txts w (some ⟨g, 0, none⟩) qs :=
  ⟨by simp, fun _ => ⟨_, rfl, h.lt, fun j u hu => by rw [add_lit, Nat.zero_add, h.cell j]; simpa using hu⟩⟩
theorem text_info : (Tryz.prog.info? 9).map (fun i => (i.zero, i.size, i.bytes)) = some (some (.string ⟨#[]⟩), 1, 16) := by kernel_rfl
theorem make_txts (n : Nat) (hn : n ≤ 1000000) (w : World) : (Instr.makeSlice 22 (.int .i64 (n : Int)) (.int .i64 (n : Int))).run Tryz.prog w = .ok (.slice (some ⟨w.heap.size, 0, none⟩) n n) (w.alloc (.cells (madeCells #[.string ⟨#[]⟩] n) 9)) := by
 obtain ⟨i0, hi, hz0, hz1, hz2⟩ := info_parts text_info
 have hr := run_make (P := Tryz.prog) w 22 9 i0 (.string ⟨#[]⟩) Tryz.underlying22 hi hz0 .i64 .i64 n n (by omega) (by omega) (by rw [hz2]; omega) (by omega)
 rw [hz1, Nat.mul_one, Int.toNat_natCast] at hr
 exact hr
end Go.Proofs.Tg.Fi
end
section
/- The program's powers of the coordinates of a point. -/
namespace Go.Proofs.Tg.Fi
open Go.RowKit Go.Rq Go.Qn Go.Bn Go.Proofs.Tg
set_option maxHeartbeats 8000000
set_option maxRecDepth 100000
/-- A row of texts. -/
structure TRow where
  A : Option Addr
  c : Nat
  qs : List Rat
def TRow.cell (r : TRow) : Value := .slice r.A r.qs.length r.c
def TRow.own (base : Nat) (w : World) (r : TRow) : Prop := w.ownsRow base 9 1 (.slice r.A r.qs.length r.c) r.qs.length (r.qs.map vq)
def pw (d : Nat) (x : Rat) : List Rat := (List.range (d + 1)).map fun e => x ^ e
def pwTo (k : Nat) (x : Rat) : List Rat := (List.range k).map fun e => x ^ e
theorem pwTo_succ (k : Nat) (x : Rat) : pwTo (k + 1) x = pwTo k x ++ [x ^ k] := by unfold pwTo; rw [List.range_succ, List.map_append]; rfl
/-- The heads of n rows: some done, one under way, the others not begun. -/
def heads (done : List TRow) (cur : Value) (n : Nat) : Array Value := (done.map TRow.cell ++ cur :: List.replicate (n - (done.length + 1)) (Value.slice none 0 0)).toArray
theorem heads_set (done : List TRow) (cur cur' : Value) (n : Nat) : (heads done cur n).setIfInBounds done.length cur' = heads done cur' n := by
 unfold heads
 rw [List.setIfInBounds_toArray, List.set_append_right _ _ (by simp), List.length_map, Nat.sub_self, List.set_cons_zero]
theorem heads_at (done : List TRow) (cur : Value) (n : Nat) : (heads done cur n)[done.length]? = some cur := by
 unfold heads
 rw [List.getElem?_toArray, List.getElem?_append_right (by simp), List.length_map, Nat.sub_self]; rfl
/-- Between two rows. -/
def heads2 (done : List TRow) (n : Nat) : Array Value := (done.map TRow.cell ++ List.replicate (n - done.length) (Value.slice none 0 0)).toArray
theorem heads2_open (done : List TRow) (n : Nat) (h : done.length < n) : heads2 done n = heads done (.slice none 0 0) n := by
 unfold heads2 heads
 rw [show n - done.length = (n - (done.length + 1)) + 1 by omega, List.replicate_succ]
theorem heads2_shut (done : List TRow) (r : TRow) (n : Nat) : heads done r.cell n = heads2 (done ++ [r]) n := by
 unfold heads2 heads
 congr 1
 rw [List.map_append, List.length_append]
 simp
theorem heads2_zero (n : Nat) : madeCells #[.slice none 0 0] n = heads2 [] n := by
 apply Array.ext
 ·simp [heads2, size_madeCells]
 ·intro i h1 h2
  simp [madeCells, heads2, Nat.mod_one]
theorem heads2_all (done : List TRow) : heads2 done done.length = (done.map TRow.cell).toArray := by simp [heads2]
theorem txtrow_info : (Tryz.prog.info? 22).map (fun i => (i.zero, i.size, i.bytes)) = some (some (.slice none 0 0), 1, 24) := by kernel_rfl
theorem make_txtrows (n : Nat) (hn : n ≤ 1000000) (w : World) : (Instr.makeSlice 33 (.int .i64 (n : Int)) (.int .i64 (n : Int))).run Tryz.prog w = .ok (.slice (some ⟨w.heap.size, 0, none⟩) n n) (w.alloc (.cells (madeCells #[.slice none 0 0] n) 22)) := by
 obtain ⟨i0, hi, hz0, hz1, hz2⟩ := info_parts txtrow_info
 have hr := run_make (P := Tryz.prog) w 33 22 i0 (.slice none 0 0) Tryz.underlying33 hi hz0 .i64 .i64 n n (by omega) (by omega) (by rw [hz2]; omega) (by omega)
 rw [hz1, Nat.mul_one, Int.toNat_natCast] at hr
 exact hr
theorem own_str_far {w : World} {g base : Nat} {cs : Array Value} {r : TRow} (h : r.own base w) (B : Blk w g 22 cs) (i : Nat) (u : Value) : r.own base (w.setCell ⟨g, i, none⟩ u) :=
  own_far h (own_blk_ne h B (by decide)) u
/-- The powers of several numbers, in rows of the call's own. -/
structure PowsB (base : Nat) (w : World) (g : Nat) (d : Nat) (xs : List Rat) (rows : List TRow) : Prop where
  ge : base ≤ g
  hd : Blk w g 22 (rows.map TRow.cell).toArray
  eq : rows.map TRow.qs = xs.map (pw d)
  own : ∀ r ∈ rows, r.own base w
theorem PowsB.keep {base : Nat} {w w' : World} {g d : Nat} {xs : List Rat} {rows : List TRow} (h : PowsB base w g d xs rows) (hb : Below w.heap.size w w') : PowsB base w' g d xs rows :=
  ⟨h.ge, h.hd.keep hb h.hd.lt, h.eq, fun r hr => own_below (h.own r hr) hb (Nat.le_refl _)⟩
theorem PowsB.far {base : Nat} {w : World} {g d b : Nat} {xs : List Rat} {rows : List TRow} (h : PowsB base w g d xs rows) (hb : b < base) (i : Nat) (u : Value) : PowsB base (w.setCell ⟨b, i, none⟩ u) g d xs rows :=
  ⟨h.ge, h.hd.far (by have := h.ge; simp; omega) _, h.eq, fun r hr => own_far (h.own r hr) (fun e => by have := ((h.own r hr).lt _ e.symm).1; simp only at this; omega) u⟩
theorem PowsB.at {base : Nat} {w : World} {g d : Nat} {xs : List Rat} {rows : List TRow} (h : PowsB base w g d xs rows) {j : Nat} (hj : j < xs.length) : ∃ R c, w.cell? ⟨g, j, none⟩ = some (.slice R (d + 1) c) ∧ Txts w R (pw d xs[j]) := by
 have hl : rows.length = xs.length := by have := congrArg List.length h.eq; simpa using this
 have hj2 : j < rows.length := by omega
 have hq : rows[j].qs = pw d xs[j] := by
  have h1 : (rows.map TRow.qs)[j]? = (xs.map (pw d))[j]? := by rw [h.eq]
  simpa [hj, hj2] using h1
 have hql : rows[j].qs.length = d + 1 := by rw [hq]; simp [pw]
 refine ⟨rows[j].A, rows[j].c, ?_, ?_⟩
 ·rw [h.hd.cell j]
  simp [hj2, TRow.cell, hql]
 ·rw [← hq]; exact Sl.own (h.own _ (List.getElem_mem hj2))
theorem pw_at (d : Nat) (x : Rat) {e : Nat} (he : e ≤ d) : ∃ h : e < (pw d x).length, (pw d x)[e] = x ^ e := ⟨by simp [pw]; omega, by simp [pw]⟩
structure PwSt (w : World) (d g n : Nat) (xs : List Rat) (wr : World) (j : Nat) (done : List TRow) : Prop where
  below : Below w.heap.size w wr
  hd : Blk wr g 22 (heads2 done n)
  own : ∀ r ∈ done, r.own w.heap.size wr
  eq : done.map TRow.qs = (xs.take j).map (pw d)
structure PwIn (w w0 : World) (g n : Nat) (wr : World) (done : List TRow) (r : TRow) : Prop where
  below : Below w.heap.size w wr
  size : w0.heap.size ≤ wr.heap.size
  hd : Blk wr g 22 (heads done r.cell n)
  own : ∀ r ∈ done, r.own w.heap.size wr
  cur : r.own w0.heap.size wr
def RetPows (d : Nat) (xs : List Rat) (w : World) (e : Ending) (w' : World) : Prop := ∃ g rows, e = .returned (.slice (some ⟨g, 0, none⟩) xs.length xs.length) ∧ PowsB w.heap.size w' g d xs rows ∧ Below w.heap.size w w'
theorem pows_q (X : Option Addr) (cx d : Nat) (xs : List Rat) (w : World) (hX : Txts w X xs) (hs : ∀ x ∈ xs, Sh x ∧ ∀ e, e ≤ d → Sh (x ^ e)) (hn : xs.length ≤ 1000) (hd : d ≤ 1000) (ht : PT w) :
    Calls Tryz.prog 16 #[.slice X xs.length cx, .int .i64 (d : Nat)] w (RetPows d xs w) := by
  obtain ⟨i0, hi, hz0, hz1, hz2⟩ := info_parts text_info
  obtain ⟨n, hn'⟩ : ∃ n, xs.length = n := ⟨_, rfl⟩
  have HX := Lib.hid hX
  have HSH := Lib.hid hs
  have HT := Lib.hid ht
  have hmk := make_txtrows n (by omega)
  obtain ⟨W, hW⟩ : ∃ W, w.alloc (.cells (madeCells #[.slice none 0 0] n) 22) = W := ⟨_, rfl⟩
  have HST : Hid (PwSt w d w.heap.size n xs W 0 []) := Lib.hid (by
   refine ⟨?_, ?_, fun r hr => absurd hr (by simp), by simp⟩
   ·rw [← hW]; exact (Below.refl _ _).alloc (Nat.le_refl _) _
   ·rw [← hW, ← heads2_zero n]; exact Blk.new _ _ _)
  unfold RetPows
  rw [hn'] at hn ⊢
  have HN := Lib.hid hn'
  have HWW := Lib.hid hW
  clear hX hs ht hn' hW
  go_enter Tryz.func16, Tryz.ntmps16
  go_upto_region 2 with (fail)
  rw [HWW.out]
  go_wp2
  go_loopw [14] (fun s14 wr => ∃ (done : List TRow), s14 = .int .i64 (done.length : Nat) ∧ done.length ≤ n ∧ Hid (PwSt w d w.heap.size n xs wr done.length done)) (fun s14 _ => n - (intOf s14).toNat)
  case atStart => exact ⟨[], rfl, Nat.zero_le _, HST⟩
  case round =>
   clear HST
   obtain ⟨wo, rfl⟩ : ∃ wo : World, wo = wr := ⟨_, rfl⟩
   obtain ⟨done, rfl, hk, HST⟩ := hrel
   obtain ⟨k, hkk⟩ : ∃ k, done.length = k := ⟨_, rfl⟩
   rw [hkk] at hk ⊢
   have HK := Lib.hid hkk
   clear hkk
   by_cases hkn : k = n
   ·have e1 : decide ((k : Int) < (n : Int)) = false := decide_eq_false (by omega)
    have e1' : decide (k < n) = false := decide_eq_false (by omega)
    have HKN := Lib.hid hkn
    clear hkn
    go_wp2
    go_ret
    have h := HST.out
    have hB := h.hd
    have hdl : done.length = n := by rw [HK.out]; exact HKN.out
    rw [← hdl, heads2_all] at hB
    refine ⟨w.heap.size, done, rfl, ⟨Nat.le_refl _, hB, ?_, h.own⟩, h.below⟩
    rw [h.eq, hdl, ← HN.out, List.take_length]
   ·have hkl : k < n := by omega
    have e1 : decide ((k : Int) < (n : Int)) = true := decide_eq_true (by omega)
    have e1' : decide (k < n) = true := decide_eq_true hkl
    have q0 : (0 : Int) ≤ (k : Int) := by omega
    have q1 : (k : Int) < (n : Int) := by omega
    have hkx : k < xs.length := by rw [HN.out]; exact hkl
    obtain ⟨ad, rfl, hc⟩ := Txts.at (HX.out.keep HST.out.below) hkx
    have HTK : Hid (xs.take (k + 1) = xs.take k ++ [xs[k]'hkx]) := Lib.hid (List.take_succ_eq_append_getElem hkx)
    have HSX := Lib.hid (HSH.out (xs[k]'hkx) (List.getElem_mem _))
    generalize xs[k]'hkx = x at *
    have hgw : w.heap.size < wo.heap.size := HST.out.hd.lt
    have HIN : Hid (PwIn w wo w.heap.size n wo done ⟨none, 0, []⟩) := Lib.hid (by
     have h := HST.out
     refine ⟨h.below, Nat.le_refl _, ?_, h.own, World.ownsRow_nil _ _ _ _⟩
     have := h.hd
     rw [heads2_open done n (by rw [HK.out]; exact hkl)] at this
     exact this)
    have HP0 : Hid (bs [49] = qtx (x ^ 0)) := Lib.hid (by
     rw [Rat.pow_zero, show (1 : Rat) = ((1 : Int) : Rat) from rfl, qtx_int]
     have : Lib.itoa 1 = [49] := by unfold Lib.itoa; rw [if_neg (by omega)]; exact dec_one
     rw [this])
    obtain ⟨S, hS⟩ : ∃ S, qtx x = S := ⟨_, rfl⟩
    rw [hS] at hc
    have HSS := Lib.hid hS
    clear hkn hS
    go_wp2
    go_loopw [8, 21] (fun s8 s21 wr => ∃ (r : TRow) (U : ByteArray), s8 = .string U ∧ s21 = .int .i64 (r.qs.length : Nat) ∧ r.qs.length ≤ d + 1 ∧ Hid (U = qtx (x ^ r.qs.length)) ∧ Hid (r.qs = pwTo r.qs.length x) ∧ Hid (PwIn w wo w.heap.size n wr done r)) (fun _ s21 _ => d + 1 - (intOf s21).toNat)
    case atStart => exact ⟨⟨none, 0, []⟩, _, rfl, rfl, Nat.zero_le _, HP0, Lib.hid rfl, HIN⟩
    case round =>
     clear HIN hc
     obtain ⟨wi, rfl⟩ : ∃ wi : World, wi = wr := ⟨_, rfl⟩
     obtain ⟨r, U, rfl, rfl, hr, HU, HQ, HPI⟩ := hrel
     obtain ⟨m, hm⟩ : ∃ m, r.qs.length = m := ⟨_, rfl⟩
     rw [hm] at hr HU HQ ⊢
     have HM := Lib.hid hm
     clear hm
     by_cases hmd : m = d + 1
     ·have e2 : decide ((m : Int) < (d : Int) + 1) = false := decide_eq_false (by omega)
      have HMD := Lib.hid hmd
      clear hmd
      go_wp2
      go_roundw
      case rel =>
       refine ⟨done ++ [r], by rw [List.length_append, HK.out]; go_num, by rw [List.length_append, HK.out]; simp; omega, Lib.hid ⟨HPI.out.below, ?_, ?_, ?_⟩⟩
       ·rw [← heads2_shut]; exact HPI.out.hd
       ·intro r' hr'
        rcases List.mem_append.1 hr' with hr' | hr'
        ·exact HPI.out.own r' hr'
        ·rw [List.mem_singleton.1 hr']; exact own_base HPI.out.cur (Nat.le_of_lt hgw)
       ·rw [List.length_append, HK.out, List.length_singleton, HTK.out, List.map_append, List.map_append]
        have := HST.out.eq
        rw [HK.out] at this
        rw [this, List.map_cons, List.map_nil, List.map_cons, List.map_nil, HQ.out, HMD.out]
        rfl
      case measure => simp [intOf]; omega
     ·have hmd2 : m < d + 1 := by omega
      have e2 : decide ((m : Int) < (d : Int) + 1) = true := decide_eq_true (by omega)
      have hB := HPI.out.hd
      have c0 : wi.cell? ⟨w.heap.size, k, none⟩ = some (.slice r.A m r.c) := by
       rw [hB.cell k, ← HK.out, heads_at]
       unfold TRow.cell
       rw [HM.out]
      have f0 := hB.frozen k
      have hsz := HPI.out.size
      have hcur := HPI.out.cur
      unfold TRow.own at hcur
      rw [HM.out] at hcur
      have hcurA := hcur.alloc (.cells #[.string U] 9)
      have hgs : w.heap.size < wi.heap.size := hB.lt
      clear hmd hB
      obtain ⟨rA, hrA⟩ : ∃ a, r.A = a := ⟨_, rfl⟩
      obtain ⟨rc, hrc⟩ : ∃ a, r.c = a := ⟨_, rfl⟩
      rw [hrA, hrc] at c0 hcur hcurA
      have HRA := Lib.hid hrA
      have HRC := Lib.hid hrc
      clear hrA hrc
      have HCA := Lib.hid hcurA
      go_wp2_with (first
        | (at_builtin; refine wpList_append_own_at _ rfl _ _ 22 rfl wo.heap.size 9 i0 _ 1 16 Tryz.underlying22 hi hz0 hz1 hz2 rfl (by decide) (.slice rA m rc) m _ rfl hcurA ⟨wi.heap.size, 0, none⟩ 1 1 [.string U] rfl rfl ?c1 ?c2 ?c3 ?c4 ?c5 ?_
           case c1 => exact cell_one_new _ _ _
           case c2 => simp [Value.oneCell']
           case c3 => simp only [maxLen]; omega
           case c4 => omega
           case c5 => simp; omega
           intro v' w5 hown' hgrow _ hat
           have hnb : some w.heap.size ≠ (Value.slice rA m rc).ownBlock := fun e => by have := (HCA.out.lt _ e.symm).1; omega
           have hal := Below.alloc (Below.refl wi.heap.size wi) (Nat.le_refl _) (.cells #[.string U] 9)
           have hB5 := (HPI.out.hd.keep hal HPI.out.hd.lt).grown hgrow hnb
           have c5 : w5.cell? ⟨w.heap.size, k, none⟩ = some (.slice rA m rc) := by
            rw [hB5.cell k, ← HK.out, heads_at]
            unfold TRow.cell
            rw [HM.out, HRA.out, HRC.out]
           have f5 := hB5.frozen k
           obtain ⟨A2, cs2, hv2, _, _⟩ := Sl.of_own hown'
           subst hv2))
      have hbe5 : Below w.heap.size w w5 := (below_all HPI.out.below hal).grown hgrow (by have := (below_all HPI.out.below hal).size; exact this) (fun j hj => by have := (hcurA.lt j hj).1; omega)
      have hds : ∀ q ∈ done, q.own w.heap.size w5 := fun q hq => by
       have h1 := own_below (HPI.out.own q hq) hal (Nat.le_refl _)
       refine h1.kept hgrow ?_
       cases hob : (Value.slice q.A q.qs.length q.c).ownBlock with
       | none => exact .inl rfl
       | some b =>
         refine .inr (fun e => ?_)
         have h2 := ((HST.out.own q hq).lt b hob).2
         have h3 := (hcurA.lt b e.symm).1
         omega
      have HDS := Lib.hid hds
      have HB5 := Lib.hid hB5
      have HC5 := Lib.hid hown'
      have HBE := Lib.hid hbe5
      have hs5 : wo.heap.size ≤ w5.heap.size := by have := hgrow.size; simp at this; omega
      have HMU := Lib.hid (fun V (h : Below w.heap.size w V) => mul_q (x ^ m) x (HSX.out.2 m (by omega)) HSX.out.1 V (HT.out.keep h))
      rw [← HU.out, HSS.out] at HMU
      unfold RetTx at HMU
      have HPS : Hid (x ^ m * x = x ^ (m + 1)) := Lib.hid (Rat.pow_succ x m).symm
      rw [HPS.out] at HMU
      obtain ⟨U2, hU2⟩ : ∃ U2, qtx (x ^ (m + 1)) = U2 := ⟨_, rfl⟩
      rw [hU2] at HMU
      have HU2 := Lib.hid hU2
      clear hds hbe5 hal hcurA hcur hB5 hown' hgrow hat hU2 c0 f0
      have hbe6 : Below w.heap.size w (w5.setCell ⟨w.heap.size, k, none⟩ (.slice A2 (m + 1) cs2)) := below_far HBE.out (Nat.le_refl _) _ _
      have hlen : (r.qs ++ [x ^ m]).length = m + 1 := by rw [List.length_append, HM.out]; rfl
      have HIN2 : Hid (∀ V, Below (w5.setCell ⟨w.heap.size, k, none⟩ (.slice A2 (m + 1) cs2)).heap.size (w5.setCell ⟨w.heap.size, k, none⟩ (.slice A2 (m + 1) cs2)) V → PwIn w wo w.heap.size n V done ⟨A2, cs2, r.qs ++ [x ^ m]⟩) := Lib.hid (fun V hV => by
       have hB6 := HB5.out.set k (.slice A2 (m + 1) cs2)
       rw [← HK.out, heads_set, HK.out] at hB6
       have hcell : TRow.cell ⟨A2, cs2, r.qs ++ [x ^ m]⟩ = .slice A2 (m + 1) cs2 := by unfold TRow.cell; rw [hlen]
       refine ⟨below_all hbe6 hV, ?_, ?_, ?_, ?_⟩
       ·have h1 := hV.size
        have h2 : (w5.setCell ⟨w.heap.size, k, none⟩ (.slice A2 (m + 1) cs2)).heap.size = w5.heap.size := by simp [World.setCell]
        omega
       ·rw [hcell]; exact hB6.keep hV hB6.lt
       ·intro q hq
        exact own_below (own_str_far (HDS.out q hq) HB5.out k _) hV (Nat.le_refl _)
       ·have h1 : TRow.own wo.heap.size w5 ⟨A2, cs2, r.qs ++ [x ^ m]⟩ := by
         unfold TRow.own
         rw [hlen, List.map_append]
         have h2 := HC5.out
         rw [show U = qtx (x ^ m) from HU.out] at h2
         exact h2
        exact own_below (own_str_far h1 HB5.out k _) hV (Nat.le_refl _))
      have HLEN := Lib.hid hlen
      clear hlen
      refine (HMU.out _ hbe6).mono ?_
      rintro e w7 ⟨rfl, hb7⟩
      go_wp2
      go_roundw
      case rel =>
       refine ⟨⟨A2, cs2, r.qs ++ [x ^ m]⟩, U2, rfl, by rw [HLEN.out]; go_num, by rw [HLEN.out]; omega, Lib.hid (by rw [HLEN.out, HU2.out]), Lib.hid (by rw [HLEN.out, pwTo_succ, ← HQ.out]), HIN2.out _ hb7⟩
      case measure => simp [intOf]; omega
end Go.Proofs.Tg.Fi
end
