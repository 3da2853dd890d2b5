/- Parts of the proof: VA1, KN1, CN6. -/
import Derived.Test.YtbgaiceakmmfdaaGreatDoorMMV2
import Derived.Test.YtbgaiceakmmfdaaGreatDoorMMV24
import Derived.Test.YtbgaiceakmmfdaaGreatDoorMMV25
section
/- The program's check of a functional whose values are short and as many as they must be. -/
namespace Go.Proofs.Tg.Fi
open Go.RowKit Go.Gr Go.Bn Go.Rq Go.Qn Go.Mm
set_option maxHeartbeats 8000000
set_option maxRecDepth 100000
theorem fvalid_any (v d : Nat) (A : Option Addr) (c : Nat) (qs : List Rat) (w : World) (h1 : 1 ≤ v) (h6 : v ≤ 6) (hd : d ≤ 24) (hf : cnt v d ≤ 1024) (hl : qs.length = cnt v d) (hA : Txts w A qs) (hs : ∀ q ∈ qs, Sh q) :
    Calls Tryz.prog 8 #[.agg #[.int .i64 (v : Nat), .int .i64 (d : Nat), .slice A qs.length c]] w fun e w' => e = .returned (.bool true) ∧ Below w.heap.size w w' := by
  obtain ⟨W, hW⟩ : ∃ W, w.alloc (.cells #[.int .i64 (v : Nat), .int .i64 (d : Nat), .slice A qs.length c] 24) = W := ⟨_, rfl⟩
  have hbW : Below w.heap.size w W := by rw [← hW]; exact (Below.refl _ _).alloc (Nat.le_refl _) _
  have HBW := Lib.hid hbW
  have B1 : Blk W w.heap.size 24 #[.int .i64 (v : Nat), .int .i64 (d : Nat), .slice A qs.length c] := by rw [← hW]; exact Blk.new _ _ _
  have HCO := Lib.hid (count_any v d h6 hd W)
  have HNU : Hid (∀ V, Below W.heap.size W V → Calls Tryz.prog 14 #[.slice A qs.length c] V fun e w' => e = .returned (.bool true) ∧ Below V.heap.size V w') := Lib.hid (fun V hb => numbers_q A c qs V (hA.keep (below_all hbW hb)) hs (by omega))
  have HB1 := Lib.hid B1
  have HWW := Lib.hid hW
  rw [hl] at HNU HB1 HWW ⊢
  clear hW hbW B1 hA hs hl
  generalize cnt v d = n at *
  have b1 : decide ((v : Int) < 1) = false := decide_eq_false (by omega)
  have b2 : decide ((6 : Int) < (v : Int)) = false := decide_eq_false (by omega)
  have b2' : decide (6 < v) = false := decide_eq_false (by omega)
  have b3 : decide ((n : Int) ≤ 1024) = true := decide_eq_true (by omega)
  have b3' : decide (n ≤ 1024) = true := decide_eq_true (by omega)
  have hb1 := HB1.out
  obtain ⟨x0, x1, x2, _, _, _⟩ := hb1.three
  clear hb1
  go_enter Tryz.func8, Tryz.ntmps8
  go_upto_region 1 with (fail)
  rw [HWW.out]
  go_wp2_with (first
    | (go_at_call 13; refine HCO.out.mono ?_; rintro e w2 ⟨rfl, hb2⟩; have HB2 := Lib.hid hb2; have Y := HB1.out.keep hb2 HB1.out.lt; obtain ⟨x0, x1, x2, _, _, _⟩ := Y.three; clear hb2)
    | (go_at_call 14; refine (HNU.out _ HB2.out).mono ?_; rintro e w3 ⟨rfl, hb3⟩; have HB3 := Lib.hid (below_all (below_all HBW.out HB2.out) hb3); clear hb3))
  exact bodyPost_ret (v := .bool true) (by simp [results, Tryz.results8, go_sem]) rfl ⟨rfl, HB3.out⟩
end Go.Proofs.Tg.Fi
end
section
/- The law's known functional: the program gives it. -/
namespace Go.Proofs.Tg.Fi
open Go.RowKit Go.Gr Go.Bn Go.Rq Go.Qn Go.Mm
set_option maxHeartbeats 8000000
set_option maxRecDepth 100000
theorem blk_at {w : World} {g g' : Nat} {t : TypeId} {cs : Array Value} (h : g = g') (B : Blk w g t cs) : Blk w g' t cs := h ▸ B
theorem kn_sh3 : ∀ q ∈ ([2, 0, 2] : List Rat), Sh q := by
 intro q hq
 have h : ∀ q ∈ ([2, 0, 2] : List Rat), q.num.natAbs < 1000000000 ∧ q.den < 1000000000 := by decide +kernel
 exact h q hq
theorem kn_at {w : World} {A : Option Addr} (h : Txts w A [2, 0, 2]) : ∃ ad, (A = some ad ∧ w.cell? ad = some (.string ⟨#[50]⟩)) ∧ w.cell? ⟨ad.block, ad.off + 1, none⟩ = some (.string ⟨#[48]⟩) ∧ w.cell? ⟨ad.block, ad.off + 2, none⟩ = some (.string ⟨#[50]⟩) := by
 obtain ⟨ad, e, c0⟩ := Txts.at h (k := 0) (by decide)
 obtain ⟨a1, e1, c1⟩ := Txts.at h (k := 1) (by decide)
 obtain ⟨a2, e2, c2⟩ := Txts.at h (k := 2) (by decide)
 subst e
 injection e1 with e1
 injection e2 with e2
 subst e1
 subst e2
 have d0 : qtx ([2, 0, 2] : List Rat)[0] = ⟨#[50]⟩ := kn_tx.2.2.1
 have d1 : qtx ([2, 0, 2] : List Rat)[1] = ⟨#[48]⟩ := kn_tx.2.2.2
 have d2 : qtx ([2, 0, 2] : List Rat)[2] = ⟨#[50]⟩ := kn_tx.2.2.1
 rw [d0] at c0
 rw [d1] at c1
 rw [d2] at c2
 exact ⟨ad, ⟨rfl, by simpa [Addr.add] using c0⟩, by simpa [Addr.add] using c1, by simpa [Addr.add] using c2⟩
theorem known_any (w : World) (ht : PT w) : Calls Tryz.prog 6 #[] w fun e w' => e = .returned (.bool true) ∧ Below w.heap.size w w' := by
 obtain ⟨W, hW⟩ : ∃ W, (((w.alloc (.cells #[.string ⟨#[49]⟩] 9)).alloc (.cells #[.string ⟨#[45, 49]⟩] 9)).alloc (.cells #[.slice (some ⟨w.heap.size, 0, none⟩) 1 1, .slice (some ⟨w.heap.size + 1, 0, none⟩) 1 1] 22)).alloc (.cells #[.string ⟨#[49]⟩, .string ⟨#[49]⟩] 9) = W := ⟨_, rfl⟩
 have hbW : Below w.heap.size w W := by rw [← hW]; exact ((((Below.refl _ _).alloc (Nat.le_refl _) _).alloc (by simp) _).alloc (by simp; omega) _).alloc (by simp; omega) _
 have B1 : Blk W w.heap.size 9 #[.string ⟨#[49]⟩] := by rw [← hW]; exact (((Blk.new _ _ _).alloc _).alloc _).alloc _
 have B2 : Blk W (w.heap.size + 1) 9 #[.string ⟨#[45, 49]⟩] := by rw [← hW]; exact ((blk_at (by simp) (Blk.new (w.alloc (.cells #[.string ⟨#[49]⟩] 9)) 9 #[.string ⟨#[45, 49]⟩])).alloc _).alloc _
 have B3 : Blk W (w.heap.size + 1 + 1) 22 #[.slice (some ⟨w.heap.size, 0, none⟩) 1 1, .slice (some ⟨w.heap.size + 1, 0, none⟩) 1 1] := by rw [← hW]; exact (blk_at (by simp) (Blk.new ((w.alloc (.cells #[.string ⟨#[49]⟩] 9)).alloc (.cells #[.string ⟨#[45, 49]⟩] 9)) 22 _)).alloc _
 have B4 : Blk W (w.heap.size + 1 + 1 + 1) 9 #[.string ⟨#[49]⟩, .string ⟨#[49]⟩] := by rw [← hW]; exact blk_at (by simp) (Blk.new _ 9 _)
 have T1 : Txts W (some ⟨w.heap.size, 0, none⟩) [1] := txts_of (by rw [show ([1] : List Rat).map vq = [.string ⟨#[49]⟩] from congrArg (fun s => [Value.string s]) kn_tx.1]; exact B1)
 have T2 : Txts W (some ⟨w.heap.size + 1, 0, none⟩) [-1] := txts_of (by rw [show ([-1] : List Rat).map vq = [.string ⟨#[45, 49]⟩] from congrArg (fun s => [Value.string s]) kn_tx.2.1]; exact B2)
 have T4 : Txts W (some ⟨w.heap.size + 1 + 1 + 1, 0, none⟩) [1, 1] := txts_of (by rw [show ([1, 1] : List Rat).map vq = [.string ⟨#[49]⟩, .string ⟨#[49]⟩] from congrArg (fun s => [Value.string s, Value.string s]) kn_tx.1]; exact B4)
 have TR : TRowsAt W (some ⟨w.heap.size + 1 + 1, 0, none⟩) [[1], [-1]] := ⟨[⟨some ⟨w.heap.size, 0, none⟩, 1, [1]⟩, ⟨some ⟨w.heap.size + 1, 0, none⟩, 1, [-1]⟩], ⟨rfl, fun _ => ⟨_, rfl, B3.lt, fun j u hu => by rw [add_lit, Nat.zero_add, B3.cell j]; simpa [TRow.cell] using hu⟩⟩, rfl, fun r hr => by
  rcases List.mem_cons.1 hr with rfl | hr
  ·exact T1
  ·rw [List.mem_singleton.1 hr]; exact T2⟩
 have HOF : Hid (Calls Tryz.prog 9 #[.slice (some ⟨w.heap.size + 1 + 1, 0, none⟩) 2 2, .slice (some ⟨w.heap.size + 1 + 1 + 1, 0, none⟩) 2 2, .int .i64 2] W fun e w' => ∃ A, e = .returned (.tuple #[.agg #[.int .i64 1, .int .i64 2, .slice A 3 3], .int .i64 0]) ∧ Txts w' A [2, 0, 2] ∧ Below W.heap.size W w') := Lib.hid (by
  have := of_any (some ⟨w.heap.size + 1 + 1, 0, none⟩) (some ⟨w.heap.size + 1 + 1 + 1, 0, none⟩) 2 2 1 2 [[1], [-1]] [1, 1] W TR T4 kn_ok (ht.keep hbW)
  rw [show (mons 1 2).map (sumTo [1, 1] [[1], [-1]] ([[1], [-1]] : List (List Rat)).length) = [2, 0, 2] from knowns] at this
  exact this)
 have HWW := Lib.hid hW
 have HBW := Lib.hid hbW
 clear hW hbW B1 B2 B3 B4 T1 T2 T4 TR ht
 go_enter Tryz.func6, Tryz.ntmps6
 have HVL : Hid (∀ (A : Option Addr) (V : World), Txts V A [2, 0, 2] → Calls Tryz.prog 8 #[.agg #[.int .i64 1, .int .i64 2, .slice A 3 3]] V fun e w' => e = .returned (.bool true) ∧ Below V.heap.size V w') := Lib.hid (fun A V h => fvalid_any 1 2 A 3 [2, 0, 2] V (by decide) (by decide) (by decide) (by decide +kernel) (by decide +kernel) h kn_sh3)
 go_wp2_with (first
   | (go_at_call 9; rw [HWW.out]; refine HOF.out.mono ?_; rintro e w2 ⟨A, rfl, hT, hb2⟩; have HT2 := Lib.hid hT; have HB2 := Lib.hid (below_all HBW.out hb2); obtain ⟨ad, c0, c1, c2⟩ := kn_at hT; obtain ⟨rfl, c0⟩ := c0; have c0a := fun o => cell_alloc c0 o; have c1a := fun o => cell_alloc c1 o; have c2a := fun o => cell_alloc c2 o; clear hT hb2 HWW)
   | (go_at_call 8; with_reducible refine Calls.mono (HVL.out _ _ (HT2.out.keep ((Below.refl _ _).alloc (Nat.le_refl _) _))) ?_; rintro e w3 ⟨rfl, hb3⟩; have HB3 := Lib.hid (below_all (below_all HB2.out ((Below.refl _ _).alloc (Nat.le_refl _) _)) hb3); clear hb3))
 exact bodyPost_ret (v := .bool true) (by simp [results, Tryz.results6, go_sem]) rfl ⟨rfl, HB3.out⟩
end Go.Proofs.Tg.Fi
end
section
/- The statement MomentsValid. -/
namespace Go.Proofs.Tg
open Go.RowKit Go.Mm Go Go.Qn
set_option maxHeartbeats 8000000
set_option maxRecDepth 100000
theorem lmv_long (n d : Int) (A : Option Addr) (N c : Nat) (w : World) (h : 40 < N) (hK : ∀ V, Below w.heap.size w V → Calls Tryz.prog 6 #[] V fun e w' => e = .returned (.bool true) ∧ Below V.heap.size V w') :
    Calls Tryz.prog 3 #[.agg #[.int .i64 n, .int .i64 d, .slice A N c]] w fun e w' => e = .returned (.bool true) ∧ Below w.heap.size w w' := by
  obtain ⟨W, hW⟩ : ∃ W, w.alloc (.cells #[.int .i64 n, .int .i64 d, .slice A N c] 24) = W := ⟨_, rfl⟩
  have hbW : Below w.heap.size w W := by rw [← hW]; exact (Below.refl _ _).alloc (Nat.le_refl _) _
  have HBW := Lib.hid hbW
  have B1 : Blk W w.heap.size 24 #[.int .i64 n, .int .i64 d, .slice A N c] := by rw [← hW]; exact Blk.new _ _ _
  have HWW := Lib.hid hW
  have HK := Lib.hid (hK W hbW)
  have k1 : decide ((40 : Int) < (N : Int)) = true := decide_eq_true (by omega)
  have k1' : decide (40 < N) = true := decide_eq_true h
  obtain ⟨x0, x1, x2, _, _, _⟩ := B1.three
  clear hW hbW B1 h hK
  go_enter Tryz.func3, Tryz.ntmps3
  go_upto_region 1 with (fail)
  rw [HWW.out]
  go_wp2_with (go_at_call 6; refine HK.out.mono ?_; rintro e w2 ⟨rfl, hb2⟩; have HB2 := Lib.hid (below_all HBW.out hb2); clear hb2)
  exact bodyPost_ret (v := .bool true) (by simp [results, Tryz.results3, go_sem]) rfl ⟨rfl, HB2.out⟩
theorem lmv_big (n d : Int) (A : Option Addr) (N c : Nat) (w : World) (h : N ≤ 40) (hK : ∀ V, Below w.heap.size w V → Calls Tryz.prog 6 #[] V fun e w' => e = .returned (.bool true) ∧ Below V.heap.size V w')
    (hS : ∀ V, Below w.heap.size w V → Calls Tryz.prog 5 #[.int .i64 40, .slice A N c] V fun e w' => e = .returned (.bool false) ∧ V = w') :
    Calls Tryz.prog 3 #[.agg #[.int .i64 n, .int .i64 d, .slice A N c]] w fun e w' => e = .returned (.bool true) ∧ Below w.heap.size w w' := by
  obtain ⟨W, hW⟩ : ∃ W, w.alloc (.cells #[.int .i64 n, .int .i64 d, .slice A N c] 24) = W := ⟨_, rfl⟩
  have hbW : Below w.heap.size w W := by rw [← hW]; exact (Below.refl _ _).alloc (Nat.le_refl _) _
  have HBW := Lib.hid hbW
  have B1 : Blk W w.heap.size 24 #[.int .i64 n, .int .i64 d, .slice A N c] := by rw [← hW]; exact Blk.new _ _ _
  have HWW := Lib.hid hW
  have HK := Lib.hid (hK W hbW)
  have HS := Lib.hid (hS W hbW)
  have k1 : decide ((40 : Int) < (N : Int)) = false := decide_eq_false (by omega)
  have k1' : decide (40 < N) = false := decide_eq_false (by omega)
  obtain ⟨x0, x1, x2, _, _, _⟩ := B1.three
  clear hW hbW B1 h hK hS
  go_enter Tryz.func3, Tryz.ntmps3
  go_upto_region 1 with (fail)
  rw [HWW.out]
  go_wp2_with (first
    | (go_at_call 5; refine HS.out.mono ?_; rintro e w2 ⟨rfl, rfl⟩)
    | (go_at_call 6; refine HK.out.mono ?_; rintro e w2 ⟨rfl, hb2⟩; have HB2 := Lib.hid (below_all HBW.out hb2); clear hb2))
  exact bodyPost_ret (v := .bool true) (by simp [results, Tryz.results3, go_sem]) rfl ⟨rfl, HB2.out⟩
theorem lmv_main (n d : Int) (A : Option Addr) (N c : Nat) (b : Bool) (w : World) (h : N ≤ 40) (hK : ∀ V, Below w.heap.size w V → Calls Tryz.prog 6 #[] V fun e w' => e = .returned (.bool true) ∧ Below V.heap.size V w')
    (hS : ∀ V, Below w.heap.size w V → Calls Tryz.prog 5 #[.int .i64 40, .slice A N c] V fun e w' => e = .returned (.bool true) ∧ V = w')
    (hR : ∀ V, Below w.heap.size w V → Calls Tryz.prog 7 #[.agg #[.int .i64 n, .int .i64 d, .slice A N c]] V fun e w' => ∃ R m cm, e = .returned (.tuple #[.agg #[.int .i64 n, .int .i64 d, .slice R m cm], .bool b]) ∧ Below V.heap.size V w')
    (hV : ∀ V, Below w.heap.size w V → Calls Tryz.prog 8 #[.agg #[.int .i64 n, .int .i64 d, .slice A N c]] V fun e w' => e = .returned (.bool b) ∧ Below V.heap.size V w') :
    Calls Tryz.prog 3 #[.agg #[.int .i64 n, .int .i64 d, .slice A N c]] w fun e w' => e = .returned (.bool true) ∧ Below w.heap.size w w' := by
  obtain ⟨W, hW⟩ : ∃ W, w.alloc (.cells #[.int .i64 n, .int .i64 d, .slice A N c] 24) = W := ⟨_, rfl⟩
  have hbW : Below w.heap.size w W := by rw [← hW]; exact (Below.refl _ _).alloc (Nat.le_refl _) _
  have HBW := Lib.hid hbW
  have B1 : Blk W w.heap.size 24 #[.int .i64 n, .int .i64 d, .slice A N c] := by rw [← hW]; exact Blk.new _ _ _
  have HB1 := Lib.hid B1
  have HWW := Lib.hid hW
  have HK := Lib.hid hK
  have HS := Lib.hid (hS W hbW)
  have HR := Lib.hid (hR W hbW)
  have HV := Lib.hid hV
  have k1 : decide ((40 : Int) < (N : Int)) = false := decide_eq_false (by omega)
  have k1' : decide (40 < N) = false := decide_eq_false (by omega)
  obtain ⟨x0, x1, x2, _, _, _⟩ := B1.three
  clear hW hbW B1 h hK hS hR hV
  go_enter Tryz.func3, Tryz.ntmps3
  go_upto_region 1 with (fail)
  rw [HWW.out]
  go_wp2_with (first
    | (go_at_call 5; refine HS.out.mono ?_; rintro e w2 ⟨rfl, rfl⟩)
    | (go_at_call 7; refine HR.out.mono ?_; rintro e w2 ⟨R, m, cm, rfl, hb2⟩; have HB2 := Lib.hid hb2; have Y := HB1.out.keep hb2 HB1.out.lt; obtain ⟨x0, x1, x2, _, _, _⟩ := Y.three; clear hb2 Y)
    | (go_at_call 6; refine (HK.out _ (below_all HBW.out (below_all HB2.out ((Below.refl _ _).alloc (Nat.le_refl _) _)))).mono ?_; rintro e w3 ⟨rfl, hb3⟩; have HB3 := Lib.hid (below_all (below_all HB2.out ((Below.refl _ _).alloc (Nat.le_refl _) _)) hb3); have Y := HB1.out.keep HB3.out HB1.out.lt; obtain ⟨x0, x1, x2, _, _, _⟩ := Y.three; clear hb3)
    | (go_at_call 8; refine (HV.out _ (below_all HBW.out HB3.out)).mono ?_; rintro e w4 ⟨rfl, hb4⟩; have HB4 := Lib.hid (below_all (below_all HBW.out HB3.out) hb4); clear hb4))
  exact bodyPost_ret (v := .bool true) (by simp [results, Tryz.results3, go_sem]) rfl ⟨rfl, HB4.out⟩
theorem law_valid (n d : Int) (A : Option Addr) (c : Nat) (ss : List ByteArray) (w : World) (hA : Sl w A ss.length 1 (ss.map Value.string)) (hT : Fi.PT w) (hTab : Tab w) :
    Calls Tryz.prog 3 #[.agg #[.int .i64 n, .int .i64 d, .slice A ss.length c]] w fun e w' => e = .returned (.bool true) ∧ Below w.heap.size w w' := by
  have hK : ∀ V, Below w.heap.size w V → Calls Tryz.prog 6 #[] V fun e w' => e = .returned (.bool true) ∧ Below V.heap.size V w' := fun V hb => Fi.known_any V (hT.keep hb)
  by_cases h40 : 40 < ss.length
  ·exact lmv_long n d A ss.length c w h40 hK
  have hn : ss.length ≤ 40 := by omega
  cases hb : ss.all shortT
  ·refine lmv_big n d A ss.length c w hn hK (fun V hV => ?_)
   have := small_any A c ss V (hA.keep hV) (by omega)
   rw [hb] at this
   exact this
  ·have hs : ∀ s ∈ ss, s.size ≤ 64 := fun s h => by
    have := List.all_eq_true.1 hb s h
    have := of_decide_eq_true (show decide (s.size ≤ 40) = true from this)
    omega
   refine lmv_main n d A ss.length c (fvB n d ss) w hn hK (fun V hV => ?_) (fun V hV => lread_any n d A c ss V (hA.keep hV) hs (by omega)) (fun V hV => fval_any n d A c ss V (hA.keep hV) hs (by omega) (hTab.below hV hTab.1))
   have := small_any A c ss V (hA.keep hV) (by omega)
   rw [hb] at this
   exact this
end Go.Proofs.Tg
end
