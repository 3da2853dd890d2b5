/- Parts of the proof: BN38, KN0, VA1, KN1, WR1. -/
import Derived.Deep.RegionHeld3
import Derived.Test.YtbgaiceakmmfdaaGreatDoorMMR0
import Derived.Test.YtbgaiceakmmfdaaGreatDoorMMR31
import Derived.Test.YtbgaiceakmmfdaaGreatDoorMMR32
import Derived.Test.YtbgaiceakmmfdaaGreatDoorMMR33
import Derived.Test.YtbgaiceakmmfdaaGreatDoorMMR36
set_option maxHeartbeats 64000000
set_option maxRecDepth 100000
namespace Go.Proofs.Tg
section
open Go.RowKit Go.Gr Go.Bn Go.Qn
def zrat : Array Value := #[.bool false, .slice none 0 0, .bool false, .slice none 0 0]
theorem ratt_info : (Tryz.prog.info? 54).map (fun i => (i.zero, i.size, i.bytes)) = some (some (.agg zrat), 4, 64) := by kernel_rfl
theorem make_rats (n : Nat) (hn : n ≤ 1000000) (w : World) : ∃ cs : Array Value, cs.size = n * 4 ∧ (Instr.makeSlice 27 (.int .i64 (n : Int)) (.int .i64 (n : Int))).run Tryz.prog w = .ok (.slice (some ⟨w.heap.size, 0, none⟩) n n) (w.alloc (.cells cs 54)) := by
 obtain ⟨i0, hi, hz0, hz1, hz2⟩ := info_parts ratt_info
 have hr := run_make (P := Tryz.prog) w 27 54 i0 (.agg zrat) Tryz.underlying27 hi hz0 .i64 .i64 n n (by omega) (by omega) (by rw [hz2]; omega) (by omega)
 rw [hz1, Int.toNat_natCast] at hr
 exact ⟨_, size_madeCells _ _, hr⟩
theorem nums_w (A : Option Addr) (c : Nat) (ss : List ByteArray) (w : World) (hA : Sl w A ss.length 1 (ss.map Value.string)) (hs : ∀ s ∈ ss, s.size ≤ 64) (hn : ss.length ≤ 1000000) :
    Calls Tryz.prog 10 #[.slice A ss.length c] w fun e w' => ∃ R m cm, e = .returned (.tuple #[.slice R m cm, .bool (ss.all fun s => (rd s.data.toList).isSome)]) ∧ ((ss.all fun s => (rd s.data.toList).isSome) = true → m = ss.length) ∧ Below w.heap.size w w' := by
  have HV : Hid (∀ s ∈ ss, ∀ V, Calls Tryz.prog 19 #[.string s] V fun e w' => ∃ x A n c y B m d, e = .returned (.tuple #[.agg #[.bool x, .slice A n c, .bool y, .slice B m d], .bool (rd s.data.toList).isSome]) ∧ Hid (Below V.heap.size V w')) := zh (fun s h V => by
   refine (rread_w s V (hs s h)).mono ?_; rintro e w' ⟨hb, ⟨h1, x, A, n, c, y, B, m, d, rfl⟩ | ⟨b, n, m, h1, _, _, _, N, cn, D, cd, rfl, _, _⟩⟩
   ·exact ⟨x, A, n, c, y, B, m, d, by rw [h1]; rfl, zh hb⟩
   ·exact ⟨b, N, _, cn, false, D, _, cd, by rw [h1]; rfl, zh hb⟩)
  obtain ⟨n, hn'⟩ := eqx (ss.length); have HA := zh hA; obtain ⟨f, hf⟩ := eqx ((fun s : ByteArray => (rd s.data.toList).isSome) : ByteArray → Bool); have HF : Hid (∀ s : ByteArray, (rd s.data.toList).isSome = f s) := zh (fun s => by rw [← hf]); rw [hf]; obtain ⟨r, hr⟩ := eqx (ss.all f); rw [hr]; have HR := zh hr; rw [hn'] at hn ⊢; have HN := zh hn'; obtain ⟨cs, hcs, hmk⟩ := make_rats n hn w; have HCS := zh hcs; have HB0 : Hid (Blk (w.alloc (.cells cs 54)) w.heap.size 54 cs) := zh (Blk.new _ _ _); have HW0 : Hid (Below w.heap.size w (w.alloc (.cells cs 54))) := zh (bal); clear hs hA hn' hr hf hcs; obtain ⟨g, hg⟩ := eqx (w.heap.size); rw [hg] at hmk HB0; have HG := zh hg; clear hg; generalize w.alloc (.cells cs 54) = w1 at *; go_enter Tryz.func10, Tryz.ntmps10; go_wp2
  go_loopw [5] (fun s5 wr => ∃ k : Nat, s5 = .int .i64 (k : Nat) ∧ k ≤ n ∧ Hid (Below w.heap.size w wr ∧ (∀ s ∈ ss.take k, f s = true) ∧ ∃ cs : Array Value, cs.size = n * 4 ∧ Blk wr g 54 cs)) (fun s5 _ => n - (intOf s5).toNat)
  case atStart => exact ⟨0, rfl, Nat.zero_le _, zh ⟨HW0.out, by simp, cs, HCS.out, HB0.out⟩⟩
  case round =>
   obtain ⟨wo, rfl⟩ : ∃ wo : World, wo = wr := ⟨_, rfl⟩; obtain ⟨k, rfl, hk, HB⟩ := hrel; clear hmk HB0 HW0
   by_cases hkn : k = n
   ·have e1 : decide ((k : Int) < (n : Int)) = false := dF (by omega); have e1' : decide (k < n) = false := dF (by omega)
    obtain rfl : r = true := by
     rw [← HR.out, List.all_eq_true]; have := HB.out.2.1
     rwa [List.take_of_length_le (by rw [HN.out]; omega)] at this
    clear hkn; go_wp2
    go_ret2
    exact ⟨_, _, ⟨_, rfl⟩, rfl, HB.out.1⟩
   ·have hkl : k < n := by omega
    have hks : k < ss.length := by rw [HN.out]; exact hkl
    have e1 : decide ((k : Int) < (n : Int)) = true := dT (by omega); have e1' : decide (k < n) = true := dT hkl; obtain ⟨S, hS⟩ := eqx (ss[k])
    have hSm : S ∈ ss := by rw [← hS]; exact List.getElem_mem hks
    obtain ⟨ad, rfl, hc0⟩ := Sl.at1 (HA.out.keep HB.out.1) (k := k) (by simpa using hks)
    have hc : wo.cell? (ad.add k) = some (.string S) := by simpa [hS] using hc0
    have HC := zh (HV.out S hSm wo); rw [HF.out] at HC; have HT : Hid (ss.take (k + 1) = ss.take k ++ [S]) := zh (by rw [List.take_succ_eq_append_getElem hks, hS]); obtain ⟨cs1, hcs1, hB1⟩ := HB.out.2.2; have HB1 := zh hB1; have HCS1 := zh hcs1; have hgl := hB1.lt; clear hkn hc0 hS hcs1 hB1
    cases hok : f S with
    | false =>
      rw [hok] at HC
      obtain rfl : r = false := by
       rw [← HR.out]; exact List.all_eq_false.2 ⟨S, hSm, by simp [hok]⟩
      clear hok
      go_wp2_with (go_at_call 19; refine HC.out.mono ?_; rintro e w2 ⟨x, A1, n1, c1, y, B1, m1, d1, rfl, HB2⟩)
      go_ret2
      refine ⟨_, _, _, rfl, (fun h => by cases h), ?_⟩; have h2 := below_all HB.out.1 HB2.out; exact h2.alloc h2.size _
    | true =>
      rw [hok] at HC; have HOK := zh hok; clear hok
      go_upto_region 8 with (go_at_call 19; refine HC.out.mono ?_; rintro e w2 ⟨x, A1, n1, c1, y, B1, m1, d1, rfl, HB2⟩)
      have hBA : Blk w2 g 54 cs1 := HB1.out.keep HB2.out HB1.out.lt; have f0 := hBA.frozen (k * 4); have f1 := hBA.frozen (k * 4 + 1); have f2 := hBA.frozen (k * 4 + 2); have f3 := hBA.frozen (k * 4 + 3); have c0 := hBA.cell (k * 4); have c1' := hBA.cell (k * 4 + 1); have c2' := hBA.cell (k * 4 + 2); have c3' := hBA.cell (k * 4 + 3); have hsz := HCS1.out; rw [Array.getElem?_eq_getElem (by omega)] at c0 c1' c2' c3'; have hgw : g < w2.heap.size := Nat.lt_of_lt_of_le hgl HB2.out.size; go_wp2; have h2 := below_all HB.out.1 HB2.out; have hgw2 := HG.out; have hb4 := below_far (below_far (below_far (below_far h2 (show w.heap.size ≤ g by omega) (k * 4) (.bool x)) (show w.heap.size ≤ g by omega) (k * 4 + 1) (.slice A1 n1 c1)) (show w.heap.size ≤ g by omega) (k * 4 + 2) (.bool y)) (show w.heap.size ≤ g by omega) (k * 4 + 3) (.slice B1 m1 d1)
      refine ⟨⟨k + 1, by go_num, by omega, zh ⟨hb4.alloc hb4.size _, ?_, _, ?_, ((((hBA.set (k * 4) (.bool x)).set (k * 4 + 1) (.slice A1 n1 c1)).set (k * 4 + 2) (.bool y)).set (k * 4 + 3) (.slice B1 m1 d1)).alloc _⟩⟩, by simp [intOf]; omega⟩
      ·rw [HT.out]; intro s h
       rcases List.mem_append.1 h with h | h
       ·exact HB.out.2.1 s h
       ·simp at h; subst h; exact HOK.out
      ·simp [HCS1.out]
end
end Go.Proofs.Tg
namespace Go.Proofs.Tg.Fi
section
open Go.Rq Go.Mm
theorem mons12 : mons 1 2 = [[0], [1], [2]] := by decide +kernel
theorem knowns : (mons 1 2).map (sumTo [1, 1] [[1], [-1]] 2) = [2, 0, 2] := by rw [mons12]; decide +kernel
theorem kn_sht : ∀ k, k < 2 → ∀ m ∈ [[0], [1], [2]], ∀ j, j < 2 → (tmTo (([1, 1] : List Rat).getD k 0) (([[1], [-1]] : List (List Rat)).getD k []) m j).num.natAbs < 1000000000 ∧ (tmTo (([1, 1] : List Rat).getD k 0) (([[1], [-1]] : List (List Rat)).getD k []) m j).den < 1000000000 := by decide +kernel
theorem kn_shs : ∀ k, k < 3 → ∀ m ∈ [[0], [1], [2]], (sumTo [1, 1] [[1], [-1]] k m).num.natAbs < 1000000000 ∧ (sumTo [1, 1] [[1], [-1]] k m).den < 1000000000 := by decide +kernel
theorem kn_shx : ∀ x ∈ ([[1], [-1]] : List (List Rat)), ∀ q ∈ x, (q.num.natAbs < 1000000000 ∧ q.den < 1000000000) ∧ ∀ e, e < 3 → (q ^ e).num.natAbs < 1000000000 ∧ (q ^ e).den < 1000000000 := by decide +kernel
theorem kn_ok : OfOk 1 2 [1, 1] [[1], [-1]] where
  n1 := by decide
  n2 := by decide
  lw := by decide
  dim := by decide +kernel
  v1 := by decide
  v6 := by decide
  d24 := by decide
  few := by decide +kernel
  shw := by
   intro q hq
   have hq1 : q = 1 := by simpa using hq
   subst hq1; exact ⟨by decide +kernel, by decide +kernel⟩
  shx := fun x hx q hq => ⟨(kn_shx x hx q hq).1, fun e he => (kn_shx x hx q hq).2 e (Nat.lt_succ_of_le he)⟩
  sht := fun k hk m hm j hj => kn_sht k hk m (by rw [← mons12]; exact hm) j (Nat.lt_succ_of_le hj)
  shs := fun k hk m hm => kn_shs k (Nat.lt_succ_of_le hk) m (by rw [← mons12]; exact hm)
theorem kn_tx : qtx 1 = ⟨#[49]⟩ ∧ qtx (-1) = ⟨#[45, 49]⟩ ∧ qtx 2 = ⟨#[50]⟩ ∧ qtx 0 = ⟨#[48]⟩ := by decide +kernel
end
end Go.Proofs.Tg.Fi
namespace Go.Proofs.Tg.Fi
section
open Go.RowKit Go.Gr Go.Bn Go.Rq Go.Qn Go.Mm
theorem fvalid_any (v d : Nat) (A : Option Addr) (c : Nat) (qs : List Rat) (w : World) (h1 : 1 ≤ v) (h6 : v ≤ 6) (hd : d ≤ 24) (hf : cnt v d ≤ 1024) (hl : qs.length = cnt v d) (hA : Txts w A qs) (hs : ∀ q ∈ qs, Sh q) :
    Calls Tryz.prog 8 #[.agg #[.int .i64 (v : Nat), .int .i64 (d : Nat), .slice A qs.length c]] w fun e w' => e = .returned (.bool true) ∧ Below w.heap.size w w' := by
  obtain ⟨W, hW⟩ := eqx (w.alloc (.cells #[.int .i64 (v : Nat), .int .i64 (d : Nat), .slice A qs.length c] 24))
  have hbW : Below w.heap.size w W := by rw [← hW]; exact bal
  have HBW := zh hbW
  have B1 : Blk W w.heap.size 24 #[.int .i64 (v : Nat), .int .i64 (d : Nat), .slice A qs.length c] := by rw [← hW]; exact Blk.new _ _ _
  have HCO := zh (count_any v d h6 hd W); have HNU : Hid (∀ V, Below W.heap.size W V → Calls Tryz.prog 14 #[.slice A qs.length c] V fun e w' => e = .returned (.bool true) ∧ Below V.heap.size V w') := zh (fun V hb => numbers_q A c qs V (hA.keep (below_all hbW hb)) hs (by omega)); have HB1 := zh B1; have HWW := zh hW; rw [hl] at HNU HB1 HWW ⊢; clear hW hbW B1 hA hs hl; generalize cnt v d = n at *; have b1 : decide ((v : Int) < 1) = false := dF (by omega); have b2 : decide ((6 : Int) < (v : Int)) = false := dF (by omega); have b2' : decide (6 < v) = false := dF (by omega); have b3 : decide ((n : Int) ≤ 1024) = true := dT (by omega); have b3' : decide (n ≤ 1024) = true := dT (by omega); have hb1 := HB1.out; obtain ⟨x0, x1, x2, _, _, _⟩ := hb1.three; clear hb1; go_enter Tryz.func8, Tryz.ntmps8; go_upto_region 1 with (fail); rw [HWW.out]
  go_wp2_with (first
    | (go_at_call 13; refine HCO.out.mono ?_; rintro e w2 ⟨rfl, hb2⟩; have HB2 := zh hb2; have Y := HB1.out.keep hb2 HB1.out.lt; obtain ⟨x0, x1, x2, _, _, _⟩ := Y.three; clear hb2)
    | (go_at_call 14; refine (HNU.out _ HB2.out).mono ?_; rintro e w3 ⟨rfl, hb3⟩; have HB3 := zh (below_all (below_all HBW.out HB2.out) hb3); clear hb3))
  exact bodyPost_ret (v := .bool true) (by simp [results, Tryz.results8, go_sem]) rfl ⟨rfl, HB3.out⟩
theorem blk_at {w : World} {g g' : Nat} {t : TypeId} {cs : Array Value} (h : g = g') (B : Blk w g t cs) : Blk w g' t cs := h ▸ B
theorem kn_sh3 : ∀ q ∈ ([2, 0, 2] : List Rat), Sh q := by
 intro q hq
 have h : ∀ q ∈ ([2, 0, 2] : List Rat), q.num.natAbs < 1000000000 ∧ q.den < 1000000000 := by decide +kernel
 exact h q hq
theorem kn_at {w : World} {A : Option Addr} (h : Txts w A [2, 0, 2]) : ∃ ad, (A = some ad ∧ w.cell? ad = some (.string ⟨#[50]⟩)) ∧ w.cell? ⟨ad.block, ad.off + 1, none⟩ = some (.string ⟨#[48]⟩) ∧ w.cell? ⟨ad.block, ad.off + 2, none⟩ = some (.string ⟨#[50]⟩) := by
 obtain ⟨ad, e, c0⟩ := Txts.at h (k := 0) (by decide)
 obtain ⟨a1, e1, c1⟩ := Txts.at h (k := 1) (by decide)
 obtain ⟨a2, e2, c2⟩ := Txts.at h (k := 2) (by decide)
 subst e
 injection e1 with e1
 injection e2 with e2
 subst e1
 subst e2
 have d0 : qtx ([2, 0, 2] : List Rat)[0] = ⟨#[50]⟩ := kn_tx.2.2.1
 have d1 : qtx ([2, 0, 2] : List Rat)[1] = ⟨#[48]⟩ := kn_tx.2.2.2
 have d2 : qtx ([2, 0, 2] : List Rat)[2] = ⟨#[50]⟩ := kn_tx.2.2.1
 rw [d0] at c0
 rw [d1] at c1
 rw [d2] at c2
 exact ⟨ad, ⟨rfl, by simpa [Addr.add] using c0⟩, by simpa [Addr.add] using c1, by simpa [Addr.add] using c2⟩
theorem known_any (w : World) (ht : PT w) : Calls Tryz.prog 6 #[] w fun e w' => e = .returned (.bool true) ∧ Below w.heap.size w w' := by
 obtain ⟨W, hW⟩ := eqx ((((w.alloc (.cells #[.string ⟨#[49]⟩] 9)).alloc (.cells #[.string ⟨#[45, 49]⟩] 9)).alloc (.cells #[.slice (some ⟨w.heap.size, 0, none⟩) 1 1, .slice (some ⟨w.heap.size + 1, 0, none⟩) 1 1] 22)).alloc (.cells #[.string ⟨#[49]⟩, .string ⟨#[49]⟩] 9))
 have hbW : Below w.heap.size w W := by rw [← hW]; exact (((bal).alloc (by simp) _).alloc (by simp; omega) _).alloc (by simp; omega) _
 have B1 : Blk W w.heap.size 9 #[.string ⟨#[49]⟩] := by rw [← hW]; exact (((Blk.new _ _ _).alloc _).alloc _).alloc _
 have B2 : Blk W (w.heap.size + 1) 9 #[.string ⟨#[45, 49]⟩] := by rw [← hW]; exact ((blk_at (by simp) (Blk.new (w.alloc (.cells #[.string ⟨#[49]⟩] 9)) 9 #[.string ⟨#[45, 49]⟩])).alloc _).alloc _
 have B3 : Blk W (w.heap.size + 1 + 1) 22 #[.slice (some ⟨w.heap.size, 0, none⟩) 1 1, .slice (some ⟨w.heap.size + 1, 0, none⟩) 1 1] := by rw [← hW]; exact (blk_at (by simp) (Blk.new ((w.alloc (.cells #[.string ⟨#[49]⟩] 9)).alloc (.cells #[.string ⟨#[45, 49]⟩] 9)) 22 _)).alloc _
 have B4 : Blk W (w.heap.size + 1 + 1 + 1) 9 #[.string ⟨#[49]⟩, .string ⟨#[49]⟩] := by rw [← hW]; exact blk_at (by simp) (Blk.new _ 9 _)
 have T1 : Txts W (some ⟨w.heap.size, 0, none⟩) [1] := txts_of (by rw [show ([1] : List Rat).map vq = [.string ⟨#[49]⟩] from congrArg (fun s => [Value.string s]) kn_tx.1]; exact B1)
 have T2 : Txts W (some ⟨w.heap.size + 1, 0, none⟩) [-1] := txts_of (by rw [show ([-1] : List Rat).map vq = [.string ⟨#[45, 49]⟩] from congrArg (fun s => [Value.string s]) kn_tx.2.1]; exact B2)
 have T4 : Txts W (some ⟨w.heap.size + 1 + 1 + 1, 0, none⟩) [1, 1] := txts_of (by rw [show ([1, 1] : List Rat).map vq = [.string ⟨#[49]⟩, .string ⟨#[49]⟩] from congrArg (fun s => [Value.string s, Value.string s]) kn_tx.1]; exact B4)
 have TR : TRowsAt W (some ⟨w.heap.size + 1 + 1, 0, none⟩) [[1], [-1]] := ⟨[⟨some ⟨w.heap.size, 0, none⟩, 1, [1]⟩, ⟨some ⟨w.heap.size + 1, 0, none⟩, 1, [-1]⟩], ⟨rfl, fun _ => ⟨_, rfl, B3.lt, fun j u hu => by rw [add_lit, Nat.zero_add, B3.cell j]; simpa [TRow.cell] using hu⟩⟩, rfl, fun r hr => by
  rcases List.mem_cons.1 hr with rfl | hr
  ·exact T1
  ·rw [List.mem_singleton.1 hr]; exact T2⟩
 have HOF : Hid (Calls Tryz.prog 9 #[.slice (some ⟨w.heap.size + 1 + 1, 0, none⟩) 2 2, .slice (some ⟨w.heap.size + 1 + 1 + 1, 0, none⟩) 2 2, .int .i64 2] W fun e w' => ∃ A, e = .returned (.tuple #[.agg #[.int .i64 1, .int .i64 2, .slice A 3 3], .int .i64 0]) ∧ Txts w' A [2, 0, 2] ∧ Below W.heap.size W w') := zh (by
  have := of_any (some ⟨w.heap.size + 1 + 1, 0, none⟩) (some ⟨w.heap.size + 1 + 1 + 1, 0, none⟩) 2 2 1 2 [[1], [-1]] [1, 1] W TR T4 kn_ok (ht.keep hbW); rw [show (mons 1 2).map (sumTo [1, 1] [[1], [-1]] ([[1], [-1]] : List (List Rat)).length) = [2, 0, 2] from knowns] at this
  exact this)
 have HWW := zh hW
 have HBW := zh hbW
 clear hW hbW B1 B2 B3 B4 T1 T2 T4 TR ht
 go_enter Tryz.func6, Tryz.ntmps6
 have HVL : Hid (∀ (A : Option Addr) (V : World), Txts V A [2, 0, 2] → Calls Tryz.prog 8 #[.agg #[.int .i64 1, .int .i64 2, .slice A 3 3]] V fun e w' => e = .returned (.bool true) ∧ Below V.heap.size V w') := zh (fun A V h => fvalid_any 1 2 A 3 [2, 0, 2] V (by decide) (by decide) (by decide) (by decide +kernel) (by decide +kernel) h kn_sh3)
 go_wp2_with (first
   | (go_at_call 9; rw [HWW.out]; refine HOF.out.mono ?_; rintro e w2 ⟨A, rfl, hT, hb2⟩; have HT2 := zh hT; have HB2 := zh (below_all HBW.out hb2); obtain ⟨ad, c0, c1, c2⟩ := kn_at hT; obtain ⟨rfl, c0⟩ := c0; have c0a := fun o => cell_alloc c0 o; have c1a := fun o => cell_alloc c1 o; have c2a := fun o => cell_alloc c2 o; clear hT hb2 HWW)
   | (go_at_call 8; with_reducible refine Calls.mono (HVL.out _ _ (HT2.out.keep (bal))) ?_; rintro e w3 ⟨rfl, hb3⟩; have HB3 := zh (below_all (below_all HB2.out (bal)) hb3); clear hb3))
 exact bodyPost_ret (v := .bool true) (by simp [results, Tryz.results6, go_sem]) rfl ⟨rfl, HB3.out⟩
end
end Go.Proofs.Tg.Fi
namespace Go.Proofs.Tg.Fi
section
open Go.RowKit Go.Gr Go.Bn Go.Rq Go.Qn
theorem sames_any (A B : Option Addr) (ca cb : Nat) (qs : List Rat) (w : World) (hA : Txts w A qs) (hB : Txts w B qs) (hn : qs.length ≤ 1000000) :
    Calls Tryz.prog 20 #[.slice A qs.length ca, .slice B qs.length cb] w fun e w' => e = .returned (.bool true) ∧ Below w.heap.size w w' := by
  obtain ⟨n, hl⟩ := eqx (qs.length); rw [hl] at hn ⊢; have HL := zh hl; have HA := zh hA; have HB := zh hB; have HB0 : Hid (Below w.heap.size w w) := zh brf; clear hl hA hB; go_enter Tryz.func20, Tryz.ntmps20; go_wp2
  go_loopw [13] (fun s13 wr => ∃ k : Nat, s13 = .int .i64 (k : Nat) ∧ k ≤ n ∧ Hid (Below w.heap.size w wr)) (fun s13 _ => n - (intOf s13).toNat)
  case atStart => exact ⟨0, rfl, Nat.zero_le _, HB0⟩
  case round =>
   clear HB0; obtain ⟨wo, rfl⟩ : ∃ wo : World, wo = wr := ⟨_, rfl⟩; obtain ⟨k, rfl, hk, HST⟩ := hrel
   by_cases hkn : k = n
   ·have e1 : decide ((k : Int) < (n : Int)) = false := dF (by omega); have e1' : decide (k < n) = false := dF (by omega); clear hkn; go_wp2; exact bodyPost_ret (v := .bool true) (by simp [results, Tryz.results20, go_sem]) rfl ⟨rfl, HST.out⟩
   ·have hkl : k < n := by omega
    have e1 : decide ((k : Int) < (n : Int)) = true := dT (by omega); have e1' : decide (k < n) = true := dT hkl
    have q1 : (0 : Int) ≤ (k : Int) := by omega
    have q2 : (k : Int) < (n : Int) := by omega
    have hkq : k < qs.length := by rw [HL.out]; exact hkl
    obtain ⟨ad, hAD, c1⟩ := Txts.at (HA.out.keep HST.out) hkq; obtain ⟨bd, hBD, c2⟩ := Txts.at (HB.out.keep HST.out) hkq; subst hAD; subst hBD; generalize qtx qs[k] = s at c1 c2; clear hkn hkq; go_upto_region 6 with (fail)
    go_quiet (fail)
    go_wp2; go_roundw
    case rel => exact ⟨k + 1, by go_num, by omega, zh (below_drewN HST.out _)⟩
    case measure => simp [intOf]; omega
theorem same_any (v d : Nat) (A B : Option Addr) (ca cb : Nat) (qs : List Rat) (w : World) (hA : Txts w A qs) (hB : Txts w B qs) (hn : qs.length ≤ 1000000) :
    Calls Tryz.prog 11 #[.agg #[.int .i64 (v : Nat), .int .i64 (d : Nat), .slice A qs.length ca], .agg #[.int .i64 (v : Nat), .int .i64 (d : Nat), .slice B qs.length cb]] w fun e w' => e = .returned (.bool true) ∧ Below w.heap.size w w' := by
  have HSA : Hid (∀ V, Below w.heap.size w V → Calls Tryz.prog 20 #[.slice A qs.length ca, .slice B qs.length cb] V fun e w' => e = .returned (.bool true) ∧ Below V.heap.size V w') := zh (fun V h => sames_any A B ca cb qs V (hA.keep h) (hB.keep h) hn); obtain ⟨W, hW⟩ := eqx ((w.alloc (.cells #[.int .i64 (v : Nat), .int .i64 (d : Nat), .slice A qs.length ca] 24)).alloc (.cells #[.int .i64 (v : Nat), .int .i64 (d : Nat), .slice B qs.length cb] 24))
  have hbW : Below w.heap.size w W := by rw [← hW]; exact (bal).alloc (by simp) _
  have HBW := zh hbW
  have B2 : Blk W w.heap.size 24 #[.int .i64 (v : Nat), .int .i64 (d : Nat), .slice A qs.length ca] := by rw [← hW]; exact (Blk.new _ _ _).alloc _
  have B3 : Blk W (w.heap.size + 1) 24 #[.int .i64 (v : Nat), .int .i64 (d : Nat), .slice B qs.length cb] := by
   rw [← hW]; have := Blk.new (w.alloc (.cells #[.int .i64 (v : Nat), .int .i64 (d : Nat), .slice A qs.length ca] 24)) 24 #[.int .i64 (v : Nat), .int .i64 (d : Nat), .slice B qs.length cb]; simpa using this
  obtain ⟨x0, x1, x2, _, _, _⟩ := B2.three; obtain ⟨y0, y1, y2, _, _, _⟩ := B3.three; have HWW := zh hW; have HC := zh (HSA.out W hbW); clear hW hbW B2 B3 hA hB; generalize qs.length = n at *; go_enter Tryz.func11, Tryz.ntmps11; go_upto_region 1 with (fail); rw [HWW.out]
  go_wp2_with (go_at_call 20; refine HC.out.mono ?_; rintro e w3 ⟨rfl, hb3⟩; have HB3 := zh (below_all HBW.out hb3); clear hb3)
  exact bodyPost_ret (v := .bool true) (by simp [results, Tryz.results11, go_sem]) rfl ⟨rfl, HB3.out⟩
end
end Go.Proofs.Tg.Fi
