/- Parts of the proof: VA1, KN1, WR1, MA1. -/
import Derived.Deep.RegionHeld3
import Derived.Test.YtpkompfkhoceoaaGreatDoorMMO13
import Derived.Test.YtpkompfkhoceoaaGreatDoorMMO16
import Derived.Test.YtpkompfkhoceoaaGreatDoorMMO19
import Derived.Test.YtpkompfkhoceoaaGreatDoorMMO20
section
/- The program's check of a functional whose values are short and as many as they must be. -/
namespace Go.Proofs.Tg.Fi
open Go.RowKit Go.Gr Go.Bn Go.Rq Go.Qn Go.Mm
set_option maxHeartbeats 8000000
set_option maxRecDepth 100000
theorem fvalid_any (v d : Nat) (A : Option Addr) (c : Nat) (qs : List Rat) (w : World) (h1 : 1 ≤ v) (h6 : v ≤ 6) (hd : d ≤ 24) (hf : cnt v d ≤ 1024) (hl : qs.length = cnt v d) (hA : Txts w A qs) (hs : ∀ q ∈ qs, Sh q) :
    Calls Tryz.prog 11 #[.agg #[.int .i64 (v : Nat), .int .i64 (d : Nat), .slice A qs.length c]] w fun e w' => e = .returned (.bool true) ∧ Below w.heap.size w w' := by
  obtain ⟨W, hW⟩ : ∃ W, w.alloc (.cells #[.int .i64 (v : Nat), .int .i64 (d : Nat), .slice A qs.length c] 24) = W := ⟨_, rfl⟩
  have hbW : Below w.heap.size w W := by rw [← hW]; exact (Below.refl _ _).alloc (Nat.le_refl _) _
  have HBW := Lib.hid hbW
  have B1 : Blk W w.heap.size 24 #[.int .i64 (v : Nat), .int .i64 (d : Nat), .slice A qs.length c] := by rw [← hW]; exact Blk.new _ _ _
  have HCO := Lib.hid (count_any v d h6 hd W)
  have HNU : Hid (∀ V, Below W.heap.size W V → Calls Tryz.prog 37 #[.slice A qs.length c] V fun e w' => e = .returned (.bool true) ∧ Below V.heap.size V w') := Lib.hid (fun V hb => numbers_q A c qs V (hA.keep (below_all hbW hb)) hs (by omega))
  have HB1 := Lib.hid B1
  have HWW := Lib.hid hW
  rw [hl] at HNU HB1 HWW ⊢
  clear hW hbW B1 hA hs hl
  generalize cnt v d = n at *
  have b1 : decide ((v : Int) < 1) = false := decide_eq_false (by omega)
  have b2 : decide ((6 : Int) < (v : Int)) = false := decide_eq_false (by omega)
  have b2' : decide (6 < v) = false := decide_eq_false (by omega)
  have b3 : decide ((n : Int) ≤ 1024) = true := decide_eq_true (by omega)
  have b3' : decide (n ≤ 1024) = true := decide_eq_true (by omega)
  have hb1 := HB1.out
  obtain ⟨x0, x1, x2, _, _, _⟩ := hb1.three
  clear hb1
  go_enter Tryz.func11, Tryz.ntmps11
  go_upto_region 1 with (fail)
  rw [HWW.out]
  go_wp2_with (first
    | (go_at_call 36; refine HCO.out.mono ?_; rintro e w2 ⟨rfl, hb2⟩; have HB2 := Lib.hid hb2; have Y := HB1.out.keep hb2 HB1.out.lt; obtain ⟨x0, x1, x2, _, _, _⟩ := Y.three; clear hb2)
    | (go_at_call 37; refine (HNU.out _ HB2.out).mono ?_; rintro e w3 ⟨rfl, hb3⟩; have HB3 := Lib.hid (below_all (below_all HBW.out HB2.out) hb3); clear hb3))
  exact bodyPost_ret (v := .bool true) (by simp [results, Tryz.results11, go_sem]) rfl ⟨rfl, HB3.out⟩
end Go.Proofs.Tg.Fi
end
section
/- The law's known functional: the program gives it. -/
namespace Go.Proofs.Tg.Fi
open Go.RowKit Go.Gr Go.Bn Go.Rq Go.Qn Go.Mm
set_option maxHeartbeats 8000000
set_option maxRecDepth 100000
theorem blk_at {w : World} {g g' : Nat} {t : TypeId} {cs : Array Value} (h : g = g') (B : Blk w g t cs) : Blk w g' t cs := h ▸ B
theorem kn_sh3 : ∀ q ∈ ([2, 0, 2] : List Rat), Sh q := by
  intro q hq
  have h : ∀ q ∈ ([2, 0, 2] : List Rat), q.num.natAbs < 1000000000 ∧ q.den < 1000000000 := by decide +kernel
  exact h q hq
theorem kn_at {w : World} {A : Option Addr} (h : Txts w A [2, 0, 2]) : ∃ ad, (A = some ad ∧ w.cell? ad = some (.string ⟨#[50]⟩)) ∧ w.cell? ⟨ad.block, ad.off + 1, none⟩ = some (.string ⟨#[48]⟩) ∧ w.cell? ⟨ad.block, ad.off + 2, none⟩ = some (.string ⟨#[50]⟩) := by
  obtain ⟨ad, e, c0⟩ := Txts.at h (k := 0) (by decide)
  obtain ⟨a1, e1, c1⟩ := Txts.at h (k := 1) (by decide)
  obtain ⟨a2, e2, c2⟩ := Txts.at h (k := 2) (by decide)
  subst e
  injection e1 with e1
  injection e2 with e2
  subst e1
  subst e2
  have d0 : qtx ([2, 0, 2] : List Rat)[0] = ⟨#[50]⟩ := kn_tx.2.2.1
  have d1 : qtx ([2, 0, 2] : List Rat)[1] = ⟨#[48]⟩ := kn_tx.2.2.2
  have d2 : qtx ([2, 0, 2] : List Rat)[2] = ⟨#[50]⟩ := kn_tx.2.2.1
  rw [d0] at c0
  rw [d1] at c1
  rw [d2] at c2
  exact ⟨ad, ⟨rfl, by simpa [Addr.add] using c0⟩, by simpa [Addr.add] using c1, by simpa [Addr.add] using c2⟩
theorem known_any (w : World) (ht : PT w) : Calls Tryz.prog 9 #[] w fun e w' => e = .returned (.bool true) ∧ Below w.heap.size w w' := by
  obtain ⟨W, hW⟩ : ∃ W, (((w.alloc (.cells #[.string ⟨#[49]⟩] 9)).alloc (.cells #[.string ⟨#[45, 49]⟩] 9)).alloc (.cells #[.slice (some ⟨w.heap.size, 0, none⟩) 1 1, .slice (some ⟨w.heap.size + 1, 0, none⟩) 1 1] 22)).alloc (.cells #[.string ⟨#[49]⟩, .string ⟨#[49]⟩] 9) = W := ⟨_, rfl⟩
  have hbW : Below w.heap.size w W := by rw [← hW]; exact ((((Below.refl _ _).alloc (Nat.le_refl _) _).alloc (by simp) _).alloc (by simp; omega) _).alloc (by simp; omega) _
  have B1 : Blk W w.heap.size 9 #[.string ⟨#[49]⟩] := by rw [← hW]; exact (((Blk.new _ _ _).alloc _).alloc _).alloc _
  have B2 : Blk W (w.heap.size + 1) 9 #[.string ⟨#[45, 49]⟩] := by rw [← hW]; exact ((blk_at (by simp) (Blk.new (w.alloc (.cells #[.string ⟨#[49]⟩] 9)) 9 #[.string ⟨#[45, 49]⟩])).alloc _).alloc _
  have B3 : Blk W (w.heap.size + 1 + 1) 22 #[.slice (some ⟨w.heap.size, 0, none⟩) 1 1, .slice (some ⟨w.heap.size + 1, 0, none⟩) 1 1] := by rw [← hW]; exact (blk_at (by simp) (Blk.new ((w.alloc (.cells #[.string ⟨#[49]⟩] 9)).alloc (.cells #[.string ⟨#[45, 49]⟩] 9)) 22 _)).alloc _
  have B4 : Blk W (w.heap.size + 1 + 1 + 1) 9 #[.string ⟨#[49]⟩, .string ⟨#[49]⟩] := by rw [← hW]; exact blk_at (by simp) (Blk.new _ 9 _)
  have T1 : Txts W (some ⟨w.heap.size, 0, none⟩) [1] := txts_of (by rw [show ([1] : List Rat).map vq = [.string ⟨#[49]⟩] from congrArg (fun s => [Value.string s]) kn_tx.1]; exact B1)
  have T2 : Txts W (some ⟨w.heap.size + 1, 0, none⟩) [-1] := txts_of (by rw [show ([-1] : List Rat).map vq = [.string ⟨#[45, 49]⟩] from congrArg (fun s => [Value.string s]) kn_tx.2.1]; exact B2)
  have T4 : Txts W (some ⟨w.heap.size + 1 + 1 + 1, 0, none⟩) [1, 1] := txts_of (by rw [show ([1, 1] : List Rat).map vq = [.string ⟨#[49]⟩, .string ⟨#[49]⟩] from congrArg (fun s => [Value.string s, Value.string s]) kn_tx.1]; exact B4)
  have TR : TRowsAt W (some ⟨w.heap.size + 1 + 1, 0, none⟩) [[1], [-1]] := ⟨[⟨some ⟨w.heap.size, 0, none⟩, 1, [1]⟩, ⟨some ⟨w.heap.size + 1, 0, none⟩, 1, [-1]⟩], ⟨rfl, fun _ => ⟨_, rfl, B3.lt, fun j u hu => by rw [add_lit, Nat.zero_add, B3.cell j]; simpa [TRow.cell] using hu⟩⟩, rfl, fun r hr => by
    rcases List.mem_cons.1 hr with rfl | hr
    · exact T1
    · rw [List.mem_singleton.1 hr]; exact T2⟩
  have HOF : Hid (Calls Tryz.prog 12 #[.slice (some ⟨w.heap.size + 1 + 1, 0, none⟩) 2 2, .slice (some ⟨w.heap.size + 1 + 1 + 1, 0, none⟩) 2 2, .int .i64 2] W fun e w' => ∃ A, e = .returned (.tuple #[.agg #[.int .i64 1, .int .i64 2, .slice A 3 3], .int .i64 0]) ∧ Txts w' A [2, 0, 2] ∧ Below W.heap.size W w') := Lib.hid (by
    have := of_any (some ⟨w.heap.size + 1 + 1, 0, none⟩) (some ⟨w.heap.size + 1 + 1 + 1, 0, none⟩) 2 2 1 2 [[1], [-1]] [1, 1] W TR T4 kn_ok (ht.keep hbW)
    rw [show (mons 1 2).map (sumTo [1, 1] [[1], [-1]] ([[1], [-1]] : List (List Rat)).length) = [2, 0, 2] from knowns] at this
    exact this)
  have HWW := Lib.hid hW
  have HBW := Lib.hid hbW
  clear hW hbW B1 B2 B3 B4 T1 T2 T4 TR ht
  go_enter Tryz.func9, Tryz.ntmps9
  have HVL : Hid (∀ (A : Option Addr) (V : World), Txts V A [2, 0, 2] → Calls Tryz.prog 11 #[.agg #[.int .i64 1, .int .i64 2, .slice A 3 3]] V fun e w' => e = .returned (.bool true) ∧ Below V.heap.size V w') := Lib.hid (fun A V h => fvalid_any 1 2 A 3 [2, 0, 2] V (by decide) (by decide) (by decide) (by decide +kernel) (by decide +kernel) h kn_sh3)
  go_wp2_with (first
    | (go_at_call 12; rw [HWW.out]; refine HOF.out.mono ?_; rintro e w2 ⟨A, rfl, hT, hb2⟩; have HT2 := Lib.hid hT; have HB2 := Lib.hid (below_all HBW.out hb2); obtain ⟨ad, c0, c1, c2⟩ := kn_at hT; obtain ⟨rfl, c0⟩ := c0; have c0a := fun o => cell_alloc c0 o; have c1a := fun o => cell_alloc c1 o; have c2a := fun o => cell_alloc c2 o; clear hT hb2 HWW)
    | (go_at_call 11; with_reducible refine Calls.mono (HVL.out _ _ (HT2.out.keep ((Below.refl _ _).alloc (Nat.le_refl _) _))) ?_; rintro e w3 ⟨rfl, hb3⟩; have HB3 := Lib.hid (below_all (below_all HB2.out ((Below.refl _ _).alloc (Nat.le_refl _) _)) hb3); clear hb3))
  exact bodyPost_ret (v := .bool true) (by simp [results, Tryz.results9, go_sem]) rfl ⟨rfl, HB3.out⟩
end Go.Proofs.Tg.Fi
end
section
/- The reference's texts of a functional, and the comparison of two functionals. -/
namespace Go.Proofs.Tg.Fi
open Go.RowKit Go.Gr Go.Bn Go.Rq Go.Qn
set_option maxHeartbeats 8000000
set_option maxRecDepth 100000
theorem blk3 {V : World} {g : Nat} {a b c a' b' c' : Value} {t : TypeId} (h : Blk V g t #[a, b, c]) : Blk (((V.setCell ⟨g, 0, none⟩ a').setCell ⟨g, 1, none⟩ b').setCell ⟨g, 2, none⟩ c') g t #[a', b', c'] := by
  have := ((h.set 0 a').set 1 b').set 2 c'
  simpa using this
theorem txts_far3 {w : World} {g : Nat} {t : TypeId} {x y : Int} {a : Option Addr} {b c : Nat} {B : Option Addr} {qs : List Rat} {p q r : Value} (hT : Txts w B qs) (Y : Blk w g t #[.int .i64 x, .int .i64 y, .slice a b c]) : Txts (((w.setCell ⟨g, 0, none⟩ p).setCell ⟨g, 1, none⟩ q).setCell ⟨g, 2, none⟩ r) B qs := by
  refine ⟨hT.len, fun hp => ?_⟩
  obtain ⟨ad, e, hlt, ha⟩ := hT.lies hp
  have hne : ad.block ≠ g := by
    intro hg
    have h0 := ha 0 (vq (qs[0]'hp)) (by simp [hp])
    unfold World.cell? at h0
    unfold Blk at Y
    rw [show (ad.add 0).block = g from hg, Y] at h0
    simp only at h0
    split at h0
    · cases h0
    · generalize (ad.add 0).off = o at h0
      match o with
      | 0 => simp [vq] at h0
      | 1 => simp [vq] at h0
      | 2 => simp [vq] at h0
      | o + 3 => simp at h0
  refine ⟨ad, e, Nat.lt_of_lt_of_le hlt (below_far (below_far (below_far (Below.refl 0 w) (Nat.zero_le _) _ _) (Nat.zero_le _) _ _) (Nat.zero_le _) _ _).size, fun j u hu => ?_⟩
  have hn : ∀ k, (⟨g, k, none⟩ : Addr) ≠ ad.add j := fun k e => hne (by have := congrArg Addr.block e; rw [add_block] at this; exact this.symm)
  rw [World.cell?_setCell_other _ _ _ _ (hn 2), World.cell?_setCell_other _ _ _ _ (hn 1), World.cell?_setCell_other _ _ _ _ (hn 0)]
  exact ha j u hu
/-- Two lists of the same texts. -/
theorem sames_any (A B : Option Addr) (ca cb : Nat) (qs : List Rat) (w : World) (hA : Txts w A qs) (hB : Txts w B qs) (hn : qs.length ≤ 1000000) :
    Calls Tryz.prog 43 #[.slice A qs.length ca, .slice B qs.length cb] w fun e w' => e = .returned (.bool true) ∧ Below w.heap.size w w' := by
  obtain ⟨n, hl⟩ : ∃ n, qs.length = n := ⟨_, rfl⟩
  rw [hl] at hn ⊢
  have HL := Lib.hid hl
  have HA := Lib.hid hA
  have HB := Lib.hid hB
  have HB0 : Hid (Below w.heap.size w w) := Lib.hid (Below.refl _ _)
  clear hl hA hB
  go_enter Tryz.func43, Tryz.ntmps43
  go_wp2
  go_loopw [13] (fun s13 wr => ∃ k : Nat, s13 = .int .i64 (k : Nat) ∧ k ≤ n ∧ Hid (Below w.heap.size w wr)) (fun s13 _ => n - (intOf s13).toNat)
  case atStart => exact ⟨0, rfl, Nat.zero_le _, HB0⟩
  case round =>
    clear HB0
    obtain ⟨wo, rfl⟩ : ∃ wo : World, wo = wr := ⟨_, rfl⟩
    obtain ⟨k, rfl, hk, HST⟩ := hrel
    by_cases hkn : k = n
    · have e1 : decide ((k : Int) < (n : Int)) = false := decide_eq_false (by omega)
      have e1' : decide (k < n) = false := decide_eq_false (by omega)
      clear hkn
      go_wp2
      exact bodyPost_ret (v := .bool true) (by simp [results, Tryz.results43, go_sem]) rfl ⟨rfl, HST.out⟩
    · have hkl : k < n := by omega
      have e1 : decide ((k : Int) < (n : Int)) = true := decide_eq_true (by omega)
      have e1' : decide (k < n) = true := decide_eq_true hkl
      have q1 : (0 : Int) ≤ (k : Int) := by omega
      have q2 : (k : Int) < (n : Int) := by omega
      have hkq : k < qs.length := by rw [HL.out]; exact hkl
      obtain ⟨ad, hAD, c1⟩ := Txts.at (HA.out.keep HST.out) hkq
      obtain ⟨bd, hBD, c2⟩ := Txts.at (HB.out.keep HST.out) hkq
      subst hAD
      subst hBD
      generalize qtx qs[k] = s at c1 c2
      clear hkn hkq
      go_upto_region 6 with (fail)
      go_quiet (fail)
      go_wp2
      go_roundw
      case rel => exact ⟨k + 1, by go_num, by omega, Lib.hid (below_drewN HST.out _)⟩
      case measure => simp [intOf]; omega
/-- Two functionals of the same values are the same. -/
theorem same_any (v d : Nat) (A B : Option Addr) (ca cb : Nat) (qs : List Rat) (w : World) (hA : Txts w A qs) (hB : Txts w B qs) (hn : qs.length ≤ 1000000) :
    Calls Tryz.prog 14 #[.agg #[.int .i64 (v : Nat), .int .i64 (d : Nat), .slice A qs.length ca], .agg #[.int .i64 (v : Nat), .int .i64 (d : Nat), .slice B qs.length cb]] w fun e w' => e = .returned (.bool true) ∧ Below w.heap.size w w' := by
  have HSA : Hid (∀ V, Below w.heap.size w V → Calls Tryz.prog 43 #[.slice A qs.length ca, .slice B qs.length cb] V fun e w' => e = .returned (.bool true) ∧ Below V.heap.size V w') := Lib.hid (fun V h => sames_any A B ca cb qs V (hA.keep h) (hB.keep h) hn)
  obtain ⟨W, hW⟩ : ∃ W, (w.alloc (.cells #[.int .i64 (v : Nat), .int .i64 (d : Nat), .slice A qs.length ca] 24)).alloc (.cells #[.int .i64 (v : Nat), .int .i64 (d : Nat), .slice B qs.length cb] 24) = W := ⟨_, rfl⟩
  have hbW : Below w.heap.size w W := by rw [← hW]; exact ((Below.refl _ _).alloc (Nat.le_refl _) _).alloc (by simp) _
  have HBW := Lib.hid hbW
  have B2 : Blk W w.heap.size 24 #[.int .i64 (v : Nat), .int .i64 (d : Nat), .slice A qs.length ca] := by rw [← hW]; exact (Blk.new _ _ _).alloc _
  have B3 : Blk W (w.heap.size + 1) 24 #[.int .i64 (v : Nat), .int .i64 (d : Nat), .slice B qs.length cb] := by
    rw [← hW]
    have := Blk.new (w.alloc (.cells #[.int .i64 (v : Nat), .int .i64 (d : Nat), .slice A qs.length ca] 24)) 24 #[.int .i64 (v : Nat), .int .i64 (d : Nat), .slice B qs.length cb]
    simpa using this
  obtain ⟨x0, x1, x2, _, _, _⟩ := B2.three
  obtain ⟨y0, y1, y2, _, _, _⟩ := B3.three
  have HWW := Lib.hid hW
  have HC := Lib.hid (HSA.out W hbW)
  clear hW hbW B2 B3 hA hB
  generalize qs.length = n at *
  go_enter Tryz.func14, Tryz.ntmps14
  go_upto_region 1 with (fail)
  rw [HWW.out]
  go_wp2_with (go_at_call 43; refine HC.out.mono ?_; rintro e w3 ⟨rfl, hb3⟩; have HB3 := Lib.hid (below_all HBW.out hb3); clear hb3)
  exact bodyPost_ret (v := .bool true) (by simp [results, Tryz.results14, go_sem]) rfl ⟨rfl, HB3.out⟩
/-- The reference's functional written as texts. -/
theorem write_q (v d : Nat) (A : Option Addr) (c : Nat) (rs : List RVal) (w : World) (h : QsAt w A rs) (hs : ∀ r ∈ rs, Sh r.q) (hn : rs.length ≤ 1000000) :
    Calls Tryz.prog 24 #[.agg #[.int .i64 (v : Nat), .int .i64 (d : Nat), .slice A rs.length c]] w fun e w' => ∃ B, e = .returned (.agg #[.int .i64 (v : Nat), .int .i64 (d : Nat), .slice B rs.length rs.length]) ∧ Txts w' B (rs.map RVal.q) ∧ Below w.heap.size w w' := by
  have HTX : Hid (∀ V, Below w.heap.size w V → Calls Tryz.prog 19 #[.slice A rs.length c] V fun e w' => ∃ B, e = .returned (.slice B rs.length rs.length) ∧ Txts w' B (rs.map RVal.q) ∧ Below V.heap.size V w') := Lib.hid (fun V hb => by
    have := texts_q A c rs V (h.keep hb) hs hn
    unfold RetTxts at this
    rw [List.length_map] at this
    exact this)
  obtain ⟨W, hW⟩ : ∃ W, (w.alloc (.cells #[.int .i64 (v : Nat), .int .i64 (d : Nat), .slice A rs.length c] 29)).alloc (.cells #[.int .i64 0, .int .i64 0, .slice none 0 0] 24) = W := ⟨_, rfl⟩
  have hbW : Below w.heap.size w W := by rw [← hW]; exact ((Below.refl _ _).alloc (Nat.le_refl _) _).alloc (by simp) _
  have HBW := Lib.hid hbW
  have B1 : Blk W w.heap.size 29 #[.int .i64 (v : Nat), .int .i64 (d : Nat), .slice A rs.length c] := by rw [← hW]; exact (Blk.new _ _ _).alloc _
  have B2 : Blk W (w.heap.size + 1) 24 #[.int .i64 0, .int .i64 0, .slice none 0 0] := by
    rw [← hW]
    have := Blk.new (w.alloc (.cells #[.int .i64 (v : Nat), .int .i64 (d : Nat), .slice A rs.length c] 29)) 24 #[.int .i64 0, .int .i64 0, .slice none 0 0]
    simpa using this
  obtain ⟨x0, x1, x2, _, _, _⟩ := B1.three
  obtain ⟨y0, y1, y2, f0, f1, f2⟩ := B2.three
  have HB2 := Lib.hid B2
  have HWW := Lib.hid hW
  have HC : Hid (∀ V, Below W.heap.size W V → Calls Tryz.prog 19 #[.slice A rs.length c] V fun e w' => ∃ B, e = .returned (.slice B rs.length rs.length) ∧ Txts w' B (rs.map RVal.q) ∧ Below V.heap.size V w') := Lib.hid (fun V hb => HTX.out V (below_all hbW hb))
  have hbe : Below W.heap.size W W.drew := (Below.refl _ _).drew
  have HRL : Hid (∀ k, Hid (rs.length = k) → True) := Lib.hid (fun _ _ => trivial)
  clear hW hbW B1 B2 h HTX HRL
  generalize rs.length = n at *
  go_enter Tryz.func24, Tryz.ntmps24
  go_upto_region 1 with (fail)
  rw [HWW.out]
  go_region_held3 (fun w' => w'.cell? ⟨w.heap.size, 0, none⟩ = some (.int .i64 (v : Nat)) ∧ w'.cell? ⟨w.heap.size, 1, none⟩ = some (.int .i64 (d : Nat)) ∧ w'.cell? ⟨w.heap.size, 2, none⟩ = some (.slice A n c))
    (first | exact ⟨keep_cell hbe x0, keep_cell hbe x1, keep_cell hbe x2⟩ | go_keep)
    (first | (go_at_call 19; with_reducible refine Calls.mono (HC.out _ (by assumption)) ?_; rintro e w3 ⟨B, rfl, hT3, hb3⟩; have HT3 := Lib.hid hT3; clear hT3; have hbe := below_all hbe hb3; have Y2 := HB2.out.keep hbe HB2.out.lt; obtain ⟨y0, y1, y2, f0, f1, f2⟩ := Y2.three))
  all_goals
    go_wp2
    obtain ⟨p0, p1, p2, _⟩ := (blk3 (a' := .int .i64 (v : Nat)) (b' := .int .i64 (d : Nat)) (c' := .slice B n n) Y2).three
    refine bodyPost_ret (v := .agg #[.int .i64 (v : Nat), .int .i64 (d : Nat), .slice B n n]) (by simp [results, Tryz.results24, go_sem, p0, p1, p2]) rfl ⟨B, rfl, ?_, ?_⟩
    · exact txts_far3 HT3.out Y2
    · exact below_far (below_far (below_far (below_all HBW.out hbe) (by omega) _ _) (by omega) _ _) (by omega) _ _
end Go.Proofs.Tg.Fi
end
section
/- The program's sum of two functionals. -/
namespace Go.Proofs.Tg.Fi
open Go.RowKit Go.Gr Go.Bn Go.Rq Go.Qn Go.Mm
set_option maxHeartbeats 8000000
set_option maxRecDepth 100000
/-- What the loop of Add and of Scale holds. -/
structure FuSt (W : World) (gv gf v d n : Nat) (zs : List Rat) (wr : World) (k : Nat) : Prop where
  bv : Blk wr gv 9 (tpart zs n k)
  bf : Blk wr gf 24 #[.int .i64 (v : Nat), .int .i64 (d : Nat), .slice (some ⟨gv, 0, none⟩) n n]
  below : Below W.heap.size W wr
  gvl : W.heap.size ≤ gv
  gfl : W.heap.size ≤ gf
  ne : gv ≠ gf
theorem kb0 (w : World) : Below w.heap.size w w.drew := (Below.refl _ _).drew
theorem kb1 (w : World) (o : Obj) : Below w.heap.size w (w.alloc o).drew := ((Below.refl _ _).alloc (Nat.le_refl _) o).drew
theorem kb2 (w : World) (o o' : Obj) : Below w.heap.size w ((w.alloc o).alloc o').drew := (((Below.refl _ _).alloc (Nat.le_refl _) o).alloc (by simp) o').drew
theorem kb3 (w : World) (o o' : Obj) {a b c : Value} : Below w.heap.size w (((((w.alloc o).alloc o').drew.setCell ⟨w.heap.size, 0, none⟩ a).setCell ⟨w.heap.size, 1, none⟩ b).setCell ⟨w.heap.size, 2, none⟩ c) := below_far (below_far (below_far (kb2 w o o') (Nat.le_refl _) _ _) (Nat.le_refl _) _ _) (Nat.le_refl _) _ _
theorem FuSt.step {W : World} {gv gf v d n : Nat} {zs : List Rat} {wr V : World} {k : Nat} (h : FuSt W gv gf v d n zs wr k) (hb : Below wr.heap.size wr V) (hl : zs.length = n) (hk : k < n) : FuSt W gv gf v d n zs (V.setCell ⟨gv, k, none⟩ (.string (qtx (zs[k]'(by omega))))) (k + 1) := by
  have hv := (h.bv.keep hb h.bv.lt).set k (.string (qtx (zs[k]'(by omega))))
  rw [tpart_set hl hk] at hv
  exact ⟨hv, (h.bf.keep hb h.bf.lt).far (by simpa using h.ne.symm) _, below_far (below_all h.below hb) h.gvl _ _, h.gvl, h.gfl, h.ne⟩
theorem fu_a (w : World) (v d n : Nat) (zs : List Rat) : FuSt w w.heap.size (w.heap.size + 1) v d n zs ((w.alloc (.cells (madeCells #[.string ⟨#[]⟩] n) 9)).alloc (.cells #[.int .i64 (v : Nat), .int .i64 (d : Nat), .slice (some ⟨w.heap.size, 0, none⟩) n n] 24)).drew 0 := by
  have h1 := Blk.new (w.alloc (.cells (madeCells #[.string ⟨#[]⟩] n) 9)) 24 #[.int .i64 (v : Nat), .int .i64 (d : Nat), .slice (some ⟨w.heap.size, 0, none⟩) n n]
  have h2 := (Blk.new w 9 (madeCells #[.string ⟨#[]⟩] n)).alloc (.cells #[.int .i64 (v : Nat), .int .i64 (d : Nat), .slice (some ⟨w.heap.size, 0, none⟩) n n] 24)
  rw [tpart_zero zs n] at h2
  have e : (w.alloc (.cells (madeCells #[.string ⟨#[]⟩] n) 9)).heap.size = w.heap.size + 1 := by simp
  rw [e] at h1
  exact ⟨by rw [tpart_zero zs n]; exact h2, h1, kb2 _ _ _, Nat.le_refl _, by omega, by omega⟩
theorem fu_b (w : World) (v d n : Nat) (zs : List Rat) : FuSt w (w.heap.size + 1) w.heap.size v d n zs ((w.alloc (.cells #[.int .i64 (v : Nat), .int .i64 (d : Nat), .slice (some ⟨w.heap.size + 1, 0, none⟩) n n] 24)).alloc (.cells (madeCells #[.string ⟨#[]⟩] n) 9)).drew 0 := by
  have h1 := (Blk.new w 24 #[.int .i64 (v : Nat), .int .i64 (d : Nat), .slice (some ⟨w.heap.size + 1, 0, none⟩) n n]).alloc (.cells (madeCells #[.string ⟨#[]⟩] n) 9)
  have h2 := Blk.new (w.alloc (.cells #[.int .i64 (v : Nat), .int .i64 (d : Nat), .slice (some ⟨w.heap.size + 1, 0, none⟩) n n] 24)) 9 (madeCells #[.string ⟨#[]⟩] n)
  have h3 : Blk ((w.alloc (.cells #[.int .i64 (v : Nat), .int .i64 (d : Nat), .slice (some ⟨w.heap.size + 1, 0, none⟩) n n] 24)).alloc (.cells (madeCells #[.string ⟨#[]⟩] n) 9)) (w.heap.size + 1) 9 (madeCells #[.string ⟨#[]⟩] n) := by simpa using h2
  exact ⟨by rw [← tpart_zero zs n]; exact h3, h1, kb2 _ _ _, by omega, Nat.le_refl _, by omega⟩
theorem cell_one {V : World} {g i : Nat} {a u : Value} {ad : Addr} (h : V.cell? ad = some u) (hne : ad.block ≠ g) : (V.setCell ⟨g, i, none⟩ a).cell? ad = some u := by
  have e : (⟨g, i, none⟩ : Addr) ≠ ad := fun e => hne (by rw [← e])
  rw [World.cell?_setCell_other _ _ _ _ e]
  exact h
theorem fadd_any (v d : Nat) (A B : Option Addr) (ca cb : Nat) (qs us : List Rat) (w : World) (h1 : 1 ≤ v) (h6 : v ≤ 6) (hd : d ≤ 24) (hf : cnt v d ≤ 1024) (hlq : qs.length = cnt v d) (hlu : us.length = cnt v d) (hA : Txts w A qs) (hB : Txts w B us) (hsq : ∀ q ∈ qs, Sh q) (hsu : ∀ q ∈ us, Sh q) (ht : PT w) :
    Calls Tryz.prog 20 #[.agg #[.int .i64 (v : Nat), .int .i64 (d : Nat), .slice A qs.length ca], .agg #[.int .i64 (v : Nat), .int .i64 (d : Nat), .slice B us.length cb]] w (RetFun v d (List.zipWith (· + ·) qs us) w) := by
  obtain ⟨zs, hz⟩ : ∃ l, List.zipWith (· + ·) qs us = l := ⟨_, rfl⟩
  have hzl : zs.length = cnt v d := by rw [← hz, List.length_zipWith, hlq, hlu, Nat.min_self]
  have HVA : Hid (∀ V, Below w.heap.size w V → Calls Tryz.prog 11 #[.agg #[.int .i64 (v : Nat), .int .i64 (d : Nat), .slice A qs.length ca]] V fun e w' => e = .returned (.bool true) ∧ Below V.heap.size V w') := Lib.hid (fun V hb => fvalid_any v d A ca qs V h1 h6 hd hf hlq (hA.keep hb) hsq)
  have HVB : Hid (∀ V, Below w.heap.size w V → Calls Tryz.prog 11 #[.agg #[.int .i64 (v : Nat), .int .i64 (d : Nat), .slice B us.length cb]] V fun e w' => e = .returned (.bool true) ∧ Below V.heap.size V w') := Lib.hid (fun V hb => fvalid_any v d B cb us V h1 h6 hd hf hlu (hB.keep hb) hsu)
  rw [hz]
  obtain ⟨n, hn⟩ : ∃ n, cnt v d = n := ⟨_, rfl⟩
  rw [hn] at hlq hlu hzl hf
  rw [hlq] at HVA ⊢
  rw [hlu] at HVB ⊢
  have HLQ := Lib.hid hlq
  have HLU := Lib.hid hlu
  have HZ := Lib.hid hz
  have HZL := Lib.hid hzl
  have HA := Lib.hid hA
  have HB := Lib.hid hB
  have HSQ := Lib.hid hsq
  have HSU := Lib.hid hsu
  have HT := Lib.hid ht
  obtain ⟨W, hW⟩ : ∃ W, ((w.alloc (.cells #[.int .i64 (v : Nat), .int .i64 (d : Nat), .slice A n ca] 24)).alloc (.cells #[.int .i64 (v : Nat), .int .i64 (d : Nat), .slice B n cb] 24)).alloc (.cells #[.int .i64 0, .int .i64 0, .slice none 0 0] 24) = W := ⟨_, rfl⟩
  have hbW : Below w.heap.size w W := by rw [← hW]; exact (((Below.refl _ _).alloc (Nat.le_refl _) _).alloc (by simp) _).alloc (by simp; omega) _
  have HBW := Lib.hid hbW
  have B2 : Blk W w.heap.size 24 #[.int .i64 (v : Nat), .int .i64 (d : Nat), .slice A n ca] := by rw [← hW]; exact ((Blk.new _ _ _).alloc _).alloc _
  have B3 : Blk W (w.heap.size + 1) 24 #[.int .i64 (v : Nat), .int .i64 (d : Nat), .slice B n cb] := by
    rw [← hW]
    have := (Blk.new (w.alloc (.cells #[.int .i64 (v : Nat), .int .i64 (d : Nat), .slice A n ca] 24)) 24 #[.int .i64 (v : Nat), .int .i64 (d : Nat), .slice B n cb]).alloc (.cells #[.int .i64 0, .int .i64 0, .slice none 0 0] 24)
    simpa using this
  have B4 : Blk W (w.heap.size + 1 + 1) 24 #[.int .i64 0, .int .i64 0, .slice none 0 0] := by
    rw [← hW]
    have := Blk.new ((w.alloc (.cells #[.int .i64 (v : Nat), .int .i64 (d : Nat), .slice A n ca] 24)).alloc (.cells #[.int .i64 (v : Nat), .int .i64 (d : Nat), .slice B n cb] 24)) 24 #[.int .i64 0, .int .i64 0, .slice none 0 0]
    simpa using this
  have HWW := Lib.hid hW
  have HB2 := Lib.hid B2
  have HB3 := Lib.hid B3
  have HB4 := Lib.hid B4
  obtain ⟨x0, x1, x2, _, _, _⟩ := B2.three
  obtain ⟨y0, y1, y2, _, _, _⟩ := B3.three
  have hmk := make_txts n (by omega)
  clear hW hbW B2 B3 B4 hA hB hsq hsu hlq hlu hz hzl ht hn
  go_enter Tryz.func20, Tryz.ntmps20
  go_upto_region 1 with (fail)
  rw [HWW.out]
  clear HWW
  go_upto_region 5 with (first
    | (go_at_call 11; with_reducible refine Calls.mono (HVA.out _ HBW.out) ?_; rintro e w2 ⟨rfl, hb2⟩; have HC2 := Lib.hid hb2; obtain ⟨x0, x1, x2, _, _, _⟩ := (HB2.out.keep hb2 HB2.out.lt).three; obtain ⟨y0, y1, y2, _, _, _⟩ := (HB3.out.keep hb2 HB3.out.lt).three; clear hb2)
    | (go_at_call 11; with_reducible refine Calls.mono (HVB.out _ (below_all HBW.out HC2.out)) ?_; rintro e w3 ⟨rfl, hb3⟩; have HC3 := Lib.hid (below_all HC2.out hb3); obtain ⟨x0, x1, x2, _, _, _⟩ := (HB2.out.keep HC3.out HB2.out.lt).three; obtain ⟨y0, y1, y2, _, _, _⟩ := (HB3.out.keep HC3.out HB3.out.lt).three; clear hb3))
  go_cut [6] (fun s6 wx => ∃ gv gf : Nat, s6 = .pointer (some ⟨gf, 0, none⟩) ∧ Hid (FuSt w3 gv gf v d n zs wx 0))
  case first =>
    clear HVA HVB HA HB HSQ HSU HT HZ y0 y1 y2
    have hbe := kb0 w3
    go_region_held3 (fun w' => w'.cell? ⟨w.heap.size, 0, none⟩ = some (.int .i64 (v : Nat)) ∧ w'.cell? ⟨w.heap.size, 1, none⟩ = some (.int .i64 (d : Nat)) ∧ w'.cell? ⟨w.heap.size, 2, none⟩ = some (.slice A n ca))
      (first | exact ⟨keep_cell (kb0 _) x0, keep_cell (kb0 _) x1, keep_cell (kb0 _) x2⟩ | exact ⟨keep_cell (kb1 _ _) x0, keep_cell (kb1 _ _) x1, keep_cell (kb1 _ _) x2⟩ | exact ⟨keep_cell (kb2 _ _ _) x0, keep_cell (kb2 _ _ _) x1, keep_cell (kb2 _ _ _) x2⟩ | exact ⟨keep_cell (kb3 _ _ _) x0, keep_cell (kb3 _ _ _) x1, keep_cell (kb3 _ _ _) x2⟩ | go_keep)
      (fail)
    all_goals
      go_wp2
      go_meet
      first
        | exact ⟨_, _, rfl, Lib.hid (fu_a w3 v d n zs)⟩
        | exact ⟨_, _, rfl, Lib.hid (fu_b w3 v d n zs)⟩
  obtain ⟨gv, gf, rfl, HF0⟩ := hcut
  have HW3 : Hid (Below w.heap.size w w3) := Lib.hid (below_all HBW.out HC3.out)
  have HWs : w.heap.size + 3 ≤ w3.heap.size := by
    have h1 := HB4.out.lt
    have h2 := HC3.out.size
    omega
  obtain ⟨z0, z1, z2, _, _, _⟩ := HF0.out.bf.three
  clear x0 x1 x2 y0 y1 y2 hmk HVA HVB
  go_wp2
  go_loopw [42] (fun s42 wr => ∃ k : Nat, s42 = .int .i64 (k : Nat) ∧ k ≤ n ∧ Hid (FuSt w3 gv gf v d n zs wr k)) (fun s42 _ => n - (intOf s42).toNat)
  case atStart => exact ⟨0, rfl, Nat.zero_le _, HF0⟩
  case round =>
    clear HF0 z0 z1 z2
    obtain ⟨wo, rfl⟩ : ∃ wo : World, wo = wr := ⟨_, rfl⟩
    obtain ⟨k, rfl, hk, HST⟩ := hrel
    obtain ⟨z0, z1, z2, _, _, _⟩ := HST.out.bf.three
    have HCO := Lib.hid (below_all HC3.out HST.out.below)
    by_cases hkn : k = n
    · have e1 : decide ((k : Int) < (n : Int)) = false := decide_eq_false (by omega)
      have e1' : decide (k < n) = false := decide_eq_false (by omega)
      have HKN := Lib.hid hkn
      clear hkn
      have HO := Lib.hid (HB4.out.keep HCO.out HB4.out.lt)
      obtain ⟨r0, r1, r2, f0, f1, f2⟩ := HO.out.three
      have hgv : w.heap.size + 1 + 1 ≠ gv := by have := HST.out.gvl; omega
      go_wp2
      obtain ⟨p0, p1, p2, _⟩ := (blk3 (a' := .int .i64 (v : Nat)) (b' := .int .i64 (d : Nat)) (c' := .slice (some ⟨gv, 0, none⟩) n n) HO.out).three
      refine bodyPost_ret (v := .tuple #[.agg #[.int .i64 (v : Nat), .int .i64 (d : Nat), .slice (some ⟨gv, 0, none⟩) n n], .int .i64 0]) (by simp [results, Tryz.results20, go_sem, p0, p1, p2]) rfl ⟨some ⟨gv, 0, none⟩, ?_, ?_, ?_⟩
      · rw [HZL.out]
      · have hv := HST.out.bv
        rw [HKN.out, tpart_all HZL.out] at hv
        exact txts_of (((hv.far (by simpa using hgv.symm) _).far (by simpa using hgv.symm) _).far (by simpa using hgv.symm) _)
      · exact below_far (below_far (below_far (below_all HW3.out HST.out.below) (by omega) _ _) (by omega) _ _) (by omega) _ _
    · have hkl : k < n := by omega
      have e1 : decide ((k : Int) < (n : Int)) = true := decide_eq_true (by omega)
      have e1' : decide (k < n) = true := decide_eq_true hkl
      have q1 : (0 : Int) ≤ (k : Int) := by omega
      have q2 : (k : Int) < (n : Int) := by omega
      have hkq : k < qs.length := by rw [HLQ.out]; exact hkl
      have hku : k < us.length := by rw [HLU.out]; exact hkl
      have hkz : k < zs.length := by rw [HZL.out]; exact hkl
      have HBO := Lib.hid (below_all HW3.out HST.out.below)
      obtain ⟨ad, hAD, c1⟩ := Txts.at (HA.out.keep HBO.out) hkq
      obtain ⟨bd, hBD, c2⟩ := Txts.at (HB.out.keep HBO.out) hku
      subst hAD
      subst hBD
      obtain ⟨x0, x1, x2, _, _, _⟩ := (HB2.out.keep HCO.out HB2.out.lt).three
      obtain ⟨y0, y1, y2, _, _, _⟩ := (HB3.out.keep HCO.out HB3.out.lt).three
      have hzk : zs[k] = qs[k] + us[k] := by
        have h1 : zs[k]? = some (qs[k] + us[k]) := by rw [← HZ.out]; simp [List.getElem?_zipWith, hkq, hku]
        simpa [hkz] using h1
      have HAQ : Hid (∀ V, Below wo.heap.size wo V → Calls Tryz.prog 41 #[.string (qtx qs[k]), .string (qtx us[k])] V fun e w' => e = .returned (.string (qtx zs[k])) ∧ Below V.heap.size V w') := Lib.hid (fun V h => by
        have := add_q qs[k] us[k] (HSQ.out _ (List.getElem_mem _)) (HSU.out _ (List.getElem_mem _)) V (HT.out.keep (below_all HBO.out h))
        unfold RetTx at this
        rw [← hzk] at this
        exact this)
      have HNX : Hid (∀ V, Below wo.heap.size wo V → FuSt w3 gv gf v d n zs (V.setCell ⟨gv, k, none⟩ (.string (qtx zs[k]))) (k + 1)) := Lib.hid (fun V h => HST.out.step h HZL.out hkl)
      obtain ⟨t, htz⟩ := tpart_at HZL.out hkl
      have HVT : Hid (∀ V, Below wo.heap.size wo V → V.cell? ⟨gv, k, none⟩ = some t ∧ V.frozen? ⟨gv, k, none⟩ = false) := Lib.hid (fun V h => by
        have hv := HST.out.bv.keep h HST.out.bv.lt
        exact ⟨by rw [hv.cell k]; exact htz, hv.frozen k⟩)
      have hadl : (ad.add k).block ≠ gv := by
        obtain ⟨a1, e1, h1, _⟩ := HA.out.lies (by omega)
        injection e1 with e1
        subst e1
        rw [add_block]
        have := HST.out.gvl
        omega
      have hbdl : (bd.add k).block ≠ gv := by
        obtain ⟨a1, e1, h1, _⟩ := HB.out.lies (by omega)
        injection e1 with e1
        subst e1
        rw [add_block]
        have := HST.out.gvl
        omega
      have hfv : gf ≠ gv := HST.out.ne.symm
      have g1 : w.heap.size ≠ gv := by have := HST.out.gvl; omega
      have g2 : w.heap.size + 1 ≠ gv := by have := HST.out.gvl; omega
      have hbe := kb0 wo
      clear htz hkn hzk
      generalize qtx qs[k] = s1 at *
      generalize qtx us[k] = s2 at *
      generalize qtx zs[k] = s3 at *
      clear hkq hku hkz
      go_upto_region 9 with (fail)
      go_region_held3 (fun w' => w'.cell? ⟨gf, 2, none⟩ = some (.slice (some ⟨gv, 0, none⟩) n n) ∧ w'.cell? ⟨w.heap.size, 2, none⟩ = some (.slice (some ad) n ca) ∧ w'.cell? ⟨w.heap.size + 1, 2, none⟩ = some (.slice (some bd) n cb) ∧ w'.cell? (ad.add k) = some (.string s1) ∧ w'.cell? (bd.add k) = some (.string s2))
        (first | exact ⟨keep_cell hbe z2, keep_cell hbe x2, keep_cell hbe y2, keep_cell hbe c1, keep_cell hbe c2⟩ | exact ⟨cell_one (keep_cell hbe z2) hfv, cell_one (keep_cell hbe x2) g1, cell_one (keep_cell hbe y2) g2, cell_one (keep_cell hbe c1) hadl, cell_one (keep_cell hbe c2) hbdl⟩ | go_keep)
        (first | (go_at_call 41; with_reducible refine Calls.mono (HAQ.out _ (by assumption)) ?_; rintro e w7 ⟨rfl, hb7⟩; have hbe := below_all hbe hb7; obtain ⟨t0, t1⟩ := HVT.out _ hbe))
      all_goals
        go_wp2
        go_roundw
        case rel => exact ⟨k + 1, by go_num, by omega, Lib.hid (HNX.out _ hbe)⟩
        case measure => simp [intOf]; omega
end Go.Proofs.Tg.Fi
end
