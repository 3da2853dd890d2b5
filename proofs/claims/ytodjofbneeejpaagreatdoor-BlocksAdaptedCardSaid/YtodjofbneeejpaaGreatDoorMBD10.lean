/- Parts of the proof: WS2, WI1, WI5, XR2, RS4, WG8. -/
import Derived.RegionTactic
import Derived.ChangeAlike
import Derived.OwnWalk
import Derived.Lib.TrailingZeros
import Derived.StillTailTactics
import Derived.Deep.RegionHeld3
import Derived.Deep.DeepCutAuto
import Derived.Laws.OwnMore
import Derived.Deep.CutRange
import Derived.ChangeKeysEq
import Derived.Laws.Rows
import Derived.Laws.Tables
import Derived.Deep.CutBlock
import Derived.Deep.AppendLies
import Derived.Maps.OwnOps
import Derived.DeepKeys4
import Derived.Deep.RegionWith
import Derived.IntWalk
import Derived.Laws.MakeOwn
import Derived.Laws.CopyOwn
import Derived.Test.YtodjofbneeejpaaGreatDoorMBD0
import Derived.Test.YtodjofbneeejpaaGreatDoorMBD1
import Derived.Test.YtodjofbneeejpaaGreatDoorMBD2
import Derived.Test.YtodjofbneeejpaaGreatDoorMBD3
import Derived.Test.YtodjofbneeejpaaGreatDoorMBD4
import Derived.Test.YtodjofbneeejpaaGreatDoorMBD6
import Derived.Test.YtodjofbneeejpaaGreatDoorMBD8
section
/- Walks: the parts of a number's text. -/
namespace Go.Proofs.Tg
open Go.RowKit Go.Qn
set_option maxHeartbeats 1000000
set_option maxRecDepth 100000
/-- The parts that a call returns. -/
def RetSplit (l : List UInt8) (w : World) (e : Ending) (w' : World) : Prop :=
  ∃ b num den ok, e = .returned (.tuple #[.agg #[.bool b, .string (bs num), .string (bs den)], .bool ok]) ∧ SplitIs l b num den ok ∧ Below w.heap.size w w'
theorem bs_toList (l : List UInt8) : (bs l).toList = l := by rw [Lib.toList_data, bs_data]
theorem bs_pos {l : List UInt8} (h : l ≠ []) : 0 < (bs l).size := by rw [bs_size]; exact List.length_pos_iff.2 h
theorem split_fin {l num den : List UInt8} {b ok : Bool} {N D : ByteArray} {w w' : World} (hN : bs num = N) (hD : bs den = D) (h : SplitIs l b num den ok) (hb : Below w.heap.size w w') :
    RetSplit l w (.returned (.tuple #[.agg #[.bool b, .string N, .string D], .bool ok])) w' := by
  subst hN hD
  exact ⟨b, num, den, ok, rfl, h, hb⟩
theorem bs_nil : bs [] = ByteArray.empty := rfl
theorem of_head {l : List UInt8} {N : ByteArray} (hN : bs l = N) {h : 0 < N.size} {c : UInt8} (k : (((N[0]).toNat : Int) == (c.toNat : Int)) = true) : l.head? = some c := by
 subst hN
 cases l with
 | nil => exact absurd h (by decide)
 | cons x t =>
   have e : (x.toNat : Int) = (c.toNat : Int) := eq_of_beq k
   have : x = c := UInt8.toNat_inj.1 (by omega)
   rw [this]; rfl
theorem of_not_head {l : List UInt8} {N : ByteArray} (hN : bs l = N) {h : 0 < N.size} {c : UInt8} (k : (((N[0]).toNat : Int) == (c.toNat : Int)) = false) : l.head? ≠ some c := by
 subst hN
 cases l with
 | nil => simp
 | cons x t =>
   have e : ¬ (x.toNat : Int) = (c.toNat : Int) := ne_of_beq_false k
   simp only [List.head?_cons, ne_eq, Option.some.injEq]
   rintro rfl
   exact e rfl
set_option maxHeartbeats 4000000 in
theorem split_any (s : ByteArray) (w : World) (hs : s.size ≤ 64) :
    Calls Tryz.prog 114 #[.string s] w (RetSplit s.data.toList w) := by
  obtain ⟨b, r, hc⟩ : ∃ b r, cut s.data.toList = (b, r) := ⟨_, _, rfl⟩
  have HC : Hid (∀ W, Calls Tryz.prog 140 #[.string s, .string ⟨#[45]⟩] W fun e w' => e = .returned (.tuple #[.string (bs r), .bool b]) ∧ W = w') := Lib.hid (fun W => by
   have := cutp_any s W hs
   rwa [hc] at this)
  have hrl : r.length ≤ 64 := by
   have := (spl_len hc).2
   rw [len_size] at this; omega
  obtain ⟨N, hN⟩ : ∃ N, bs (r.takeWhile isD) = N := ⟨_, rfl⟩
  obtain ⟨R, hR⟩ : ∃ R, bs (r.dropWhile isD) = R := ⟨_, rfl⟩
  have HD : Hid (∀ W, Calls Tryz.prog 141 #[.string (bs r)] W fun e w' => e = .returned (.tuple #[.string N, .string R]) ∧ Below W.heap.size W w') := Lib.hid (fun W => by
   have := digits_any (bs r) W (by rw [bs_size]; exact hrl)
   rwa [bs_data, hN, hR] at this)
  have HN := Lib.hid hN
  have HR := Lib.hid hR
  have Hc := Lib.hid hc
  clear hN hR hc
  go_enter Tryz.func114, Tryz.ntmps114
  go_wp2_with (go_at_call 140; refine (HC.out _).mono ?_; rintro e w' ⟨rfl, rfl⟩)
  with_reducible refine (HD.out _).mono ?_
  rintro e w1 ⟨rfl, hb1⟩
  have B4 : Blk w1 (w.heap.size + 1) 150 #[.bool b, .string ByteArray.empty, .string ByteArray.empty] := by
   have := (Blk.new (w.alloc (.cells #[.bool false, .string ByteArray.empty, .string ByteArray.empty] 150)) 150 #[.bool b, .string ByteArray.empty, .string ByteArray.empty]).keep hb1 (by simp)
   simpa using this
  have B2 : Blk w1 w.heap.size 150 #[.bool false, .string ByteArray.empty, .string ByteArray.empty] :=
    ((Blk.new w 150 #[.bool false, .string ByteArray.empty, .string ByteArray.empty]).alloc _).keep hb1 (by simp; omega)
  have hbw : Below w.heap.size w w1 := (((Below.refl _ _).alloc (Nat.le_refl _) _).alloc (by simp) _).trans (hb1.mono (by simp; omega))
  have hz : w.heap.size + 1 < w1.heap.size := B4.lt
  have HB4 := Lib.hid B4
  have HB2 := Lib.hid B2
  have c0 := B4.cell 0
  have c1 := B4.cell 1
  have c2 := B4.cell 2
  have f0 := B4.frozen 0
  have f1 := B4.frozen 1
  have f2 := B4.frozen 2
  have d0 := B2.cell 0
  have d1 := B2.cell 1
  have d2 := B2.cell 2
  have e0 := B2.frozen 0
  have e1 := B2.frozen 1
  have e2 := B2.frozen 2
  clear hb1 B4 B2
  simp at c0 c1 c2 d0 d1 d2
  go_wp2_with (fail)
  ·have t1 : (N.toList == [48]) = true := by assumption
   have t2 : b = true := by assumption
   subst t2
   refine bodyPost_ret (v := .tuple #[.agg #[.bool true, .string N, .string ByteArray.empty], .bool false]) (by simp [results, Tryz.results114, go_sem, d0, d1, d2]) rfl (split_fin HN.out bs_nil (spl_zero Hc.out ?_) ?_)
   ·rw [← bs_toList (r.takeWhile isD), HN.out]; simpa using t1
   ·exact (((hbw.setCell (by simp) _).setCell (by simp) _).setCell (by simp) _).setCell (by simp) _
  ·have t1 : (N.toList == [48]) = true := by assumption
   have t2 : ¬ b = true := by assumption
   obtain rfl : b = false := eq_false_of_ne_true t2
   refine bodyPost_ret (v := .tuple #[.agg #[.bool false, .string N, .string ByteArray.empty], .bool R.toList.isEmpty]) (by simp [results, Tryz.results114, go_sem, d0, d1, d2]) rfl (split_fin HN.out bs_nil ?_ ?_)
   ·have := spl_zero Hc.out (by rw [← bs_toList (r.takeWhile isD), HN.out]; simpa using t1)
    rw [← HR.out, bs_toList]
    simpa using this
   ·exact (((hbw.setCell (by simp) _).setCell (by simp) _).setCell (by simp) _).setCell (by simp) _
  ·have t1 : (N.toList == [48]) = false := by assumption
   have t2 : N.toList = [] := by assumption
   refine bodyPost_ret (v := .tuple #[.agg #[.bool b, .string N, .string ByteArray.empty], .bool false]) (by simp [results, Tryz.results114, go_sem, d0, d1, d2]) rfl (split_fin HN.out bs_nil (spl_bad Hc.out ?_ (.inl ?_)) ?_)
   ·rw [← bs_toList (r.takeWhile isD), HN.out]; simpa using t1
   ·rw [← bs_toList (r.takeWhile isD), HN.out]; exact t2
   ·exact (((hbw.setCell (by simp) _).setCell (by simp) _).setCell (by simp) _).setCell (by simp) _
  ·have t1 : (N.toList == [48]) = false := by assumption
   have t3 : ¬ N.toList = [] := by assumption
   have t4 : 0 < N.size := by assumption
   have t2 : N.toList.isEmpty = true ∨ ((N[0].toNat : Int) == 48) = true := by assumption
   refine bodyPost_ret (v := .tuple #[.agg #[.bool b, .string N, .string ByteArray.empty], .bool false]) (by simp [results, Tryz.results114, go_sem, d0, d1, d2]) rfl (split_fin HN.out bs_nil (spl_bad Hc.out ?_ (.inr ?_)) ?_)
   ·rw [← bs_toList (r.takeWhile isD), HN.out]; simpa using t1
   ·rcases t2 with t2 | t2
    ·exact absurd (List.isEmpty_iff.1 t2) t3
    ·exact of_head HN.out (c := 48) t2
   ·exact (((hbw.setCell (by simp) _).setCell (by simp) _).setCell (by simp) _).setCell (by simp) _
  ·have t1 : (N.toList == [48]) = false := by assumption
   have t3 : ¬ N.toList = [] := by assumption
   have t4 : 0 < N.size := by assumption
   have t2 : N.toList.isEmpty = false ∧ ((N[0].toNat : Int) == 48) = false := by assumption
   have t5 : R.toList.isEmpty = true := by assumption
   refine bodyPost_ret (v := .tuple #[.agg #[.bool b, .string N, .string ByteArray.empty], .bool true]) (by simp [results, Tryz.results114, go_sem, d0, d1, d2]) rfl (split_fin HN.out bs_nil (spl_whole Hc.out ?_ ?_ ?_) ?_)
   ·rw [← bs_toList (r.takeWhile isD), HN.out]; simpa using t1
   ·rintro (h | h)
    ·exact t3 (by rw [← HN.out, bs_toList]; exact h)
    ·exact of_not_head HN.out (c := 48) t2.2 h
   ·rw [← bs_toList (r.dropWhile isD), HR.out]; exact List.isEmpty_iff.1 t5
   ·exact (((hbw.setCell (by simp) _).setCell (by simp) _).setCell (by simp) _).setCell (by simp) _
  ·have t1 : (N.toList == [48]) = false := by assumption
   have t3 : ¬ N.toList = [] := by assumption
   have t4 : 0 < N.size := by assumption
   have t2 : N.toList.isEmpty = false ∧ ((N[0].toNat : Int) == 48) = false := by assumption
   have t5 : R.toList.isEmpty = false := by assumption
   have t6 : 0 < R.size := by assumption
   have t7 : ((R[0].toNat : Int) != 47) = true := by assumption
   have hR : r.dropWhile isD = R.toList := by rw [← HR.out, bs_toList]
   obtain ⟨c, t, hct⟩ : ∃ c t, r.dropWhile isD = c :: t := by
    cases hh : r.dropWhile isD with
    | nil => rw [hh] at hR; rw [← hR] at t5; cases t5
    | cons c t => exact ⟨c, t, rfl⟩
   refine bodyPost_ret (v := .tuple #[.agg #[.bool b, .string N, .string ByteArray.empty], .bool false]) (by simp [results, Tryz.results114, go_sem, d0, d1, d2]) rfl (split_fin HN.out bs_nil (spl_slash Hc.out ?_ ?_ hct ?_) ?_)
   ·rw [← bs_toList (r.takeWhile isD), HN.out]; simpa using t1
   ·rintro (h | h)
    ·exact t3 (by rw [← HN.out, bs_toList]; exact h)
    ·exact of_not_head HN.out (c := 48) t2.2 h
   ·have := of_not_head HR.out (c := 47) (h := t6) (by simpa using t7)
    rw [hct] at this
    simpa using this
   ·exact (((hbw.setCell (by simp) _).setCell (by simp) _).setCell (by simp) _).setCell (by simp) _
  ·have t1 : (N.toList == [48]) = false := by assumption
   have t3 : ¬ N.toList = [] := by assumption
   have t4 : 0 < N.size := by assumption
   have t2 : N.toList.isEmpty = false ∧ ((N[0].toNat : Int) == 48) = false := by assumption
   have t5 : R.toList.isEmpty = false := by assumption
   have t6 : 0 < R.size := by assumption
   have t7 : ((R[0].toNat : Int) != 47) = false := by assumption
   have hR : r.dropWhile isD = R.toList := by rw [← HR.out, bs_toList]
   obtain ⟨t, hct⟩ : ∃ t, r.dropWhile isD = 47 :: t := by
    have := of_head HR.out (c := 47) (h := t6) (by simpa using t7)
    cases hh : r.dropWhile isD with
    | nil => rw [hh] at this; cases this
    | cons c t => rw [hh] at this; injection this with this; subst this; exact ⟨t, rfl⟩
   have hext : R.extract 1 R.size = bs t := by rw [ext_end, ← HR.out, bs_data, hct]; rfl
   have htl : t.length ≤ 64 := by
    have a2 := dw_len isD r
    rw [hct, List.length_cons] at a2
    omega
   obtain ⟨D, hD⟩ : ∃ D, bs (t.takeWhile isD) = D := ⟨_, rfl⟩
   obtain ⟨R2, hR2⟩ : ∃ R, bs (t.dropWhile isD) = R := ⟨_, rfl⟩
   have HD2 : Hid (∀ W, Calls Tryz.prog 141 #[.string (R.extract 1 R.size)] W fun e w' => e = .returned (.tuple #[.string D, .string R2]) ∧ Below W.heap.size W w') := Lib.hid (fun W => by
    have := digits_any (bs t) W (by rw [bs_size]; exact htl)
    rwa [bs_data, hD, hR2, ← hext] at this)
   have HDD := Lib.hid hD
   have HR2 := Lib.hid hR2
   have Hct := Lib.hid hct
   have T1 := Lib.hid t1
   have T2 := Lib.hid t2
   clear hD hR2 hct hR hext t1 t2 t7
   with_reducible refine (HD2.out _).mono ?_
   rintro e w2 ⟨rfl, hb2⟩
   have B4 : Blk w2 (w.heap.size + 1) 150 #[.bool b, .string N, .string ByteArray.empty] := (HB4.out.set 1 (.string N)).keep hb2 (by simp; omega)
   have B2 : Blk w2 w.heap.size 150 #[.bool false, .string ByteArray.empty, .string ByteArray.empty] := (HB2.out.far (p := ⟨w.heap.size + 1, 1, none⟩) (by simp) (.string N)).keep hb2 (by simp; omega)
   have hbw2 : Below w.heap.size w w2 := (hbw.setCell (p := ⟨w.heap.size + 1, 1, none⟩) (by simp) (.string N)).trans (hb2.mono (by simp; omega))
   have hz2 : w.heap.size + 1 < w2.heap.size := B4.lt
   clear c0 c1 c2 d0 d1 d2 e0 e1 e2 f0 f1 f2 hb2 hz HB4 HB2 hbw
   have c0 := B4.cell 0
   have c1 := B4.cell 1
   have c2 := B4.cell 2
   have f0 := B4.frozen 0
   have f1 := B4.frozen 1
   have f2 := B4.frozen 2
   have d0 := B2.cell 0
   have d1 := B2.cell 1
   have d2 := B2.cell 2
   have e0 := B2.frozen 0
   have e1 := B2.frozen 1
   have e2 := B2.frozen 2
   clear B4 B2
   simp at c0 c1 c2 d0 d1 d2
   have fin : ∀ (ok : Bool) (w' : World), (ok = true ↔ t.dropWhile isD = [] ∧ t.takeWhile isD ≠ [] ∧ (t.takeWhile isD).head? ≠ some 48 ∧ t.takeWhile isD ≠ [49]) → Below w.heap.size w w' →
       RetSplit s.data.toList w (.returned (.tuple #[.agg #[.bool b, .string N, .string D], .bool ok])) w' := by
     intro ok w' hok hb
     refine split_fin HN.out HDD.out (spl_den Hc.out ?_ ?_ Hct.out hok) hb
     ·rw [← bs_toList (r.takeWhile isD), HN.out]; simpa using T1.out
     ·rintro (h | h)
      ·exact t3 (by rw [← HN.out, bs_toList]; exact h)
      ·exact of_not_head HN.out (c := 48) T2.out.2 h
   have FIN := Lib.hid fin
   clear fin
   have hRl : R2.toList = t.dropWhile isD := by rw [← HR2.out, bs_toList]
   have hDl : D.toList = t.takeWhile isD := by rw [← HDD.out, bs_toList]
   have HRl := Lib.hid hRl
   have HDl := Lib.hid hDl
   clear hRl hDl
   go_wp2
   by_cases r2 : R2.toList.isEmpty = true
   ·have r2' : R2.toList = [] := List.isEmpty_iff.1 r2
    by_cases r3 : D.toList.isEmpty = true
    ·have r3' : D.toList = [] := List.isEmpty_iff.1 r3
     go_region
     all_goals
       try go_wp2
       refine bodyPost_ret (v := .tuple #[.agg #[.bool b, .string N, .string D], .bool false]) (by simp [results, Tryz.results114, go_sem, d0, d1, d2]) rfl (FIN.out _ _ ?_ ?_)
       ·rw [← HRl.out, ← HDl.out, r3']; simp
       ·exact below_drewN ((((hbw2.setCell (by simp) _).setCell (by simp) _).setCell (by simp) _).setCell (by simp) _) 1
    ·have r3 : D.toList.isEmpty = false := eq_false_of_ne_true r3
     have r3' : ¬ D.toList = [] := fun e => by rw [e] at r3; cases r3
     have r4 : 0 < D.size := by
      rw [← HDD.out]; exact bs_pos (fun e => r3' (by rw [HDl.out]; exact e))
     by_cases r5 : ((D[0].toNat : Int) != 48) = true
     ·have r5' : (t.takeWhile isD).head? ≠ some 48 := of_not_head HDD.out (c := 48) (h := r4) (by simpa using r5)
      have R5 := Lib.hid r5'
      clear r5'
      by_cases r6 : (D.toList != [49]) = true
      ·skip
       go_region
       all_goals
         try go_wp2
         refine bodyPost_ret (v := .tuple #[.agg #[.bool b, .string N, .string D], .bool true]) (by simp [results, Tryz.results114, go_sem, d0, d1, d2]; simpa using r6) rfl (FIN.out _ _ ?_ ?_)
         ·rw [← HRl.out, ← HDl.out]; exact iff_of_true rfl ⟨r2', r3', by rw [HDl.out]; exact R5.out, by simpa using r6⟩
         ·exact below_drewN ((((hbw2.setCell (by simp) _).setCell (by simp) _).setCell (by simp) _).setCell (by simp) _) 1
      ·have r6 : (D.toList != [49]) = false := eq_false_of_ne_true r6
       go_region
       all_goals
         try go_wp2
         refine bodyPost_ret (v := .tuple #[.agg #[.bool b, .string N, .string D], .bool false]) (by simp [results, Tryz.results114, go_sem, d0, d1, d2]; simpa using r6) rfl (FIN.out _ _ ?_ ?_)
         ·rw [← HRl.out, ← HDl.out]; exact iff_of_false (by decide) (fun h => h.2.2.2 (by simpa using r6))
         ·exact below_drewN ((((hbw2.setCell (by simp) _).setCell (by simp) _).setCell (by simp) _).setCell (by simp) _) 1
     ·have r5 : ((D[0].toNat : Int) != 48) = false := eq_false_of_ne_true r5
      have r5' : (t.takeWhile isD).head? = some 48 := of_head HDD.out (c := 48) (h := r4) (by simpa using r5)
      have R5 := Lib.hid r5'
      clear r5'
      go_region
      all_goals
        try go_wp2
        refine bodyPost_ret (v := .tuple #[.agg #[.bool b, .string N, .string D], .bool false]) (by simp [results, Tryz.results114, go_sem, d0, d1, d2]) rfl (FIN.out _ _ ?_ ?_)
        ·rw [← HRl.out, ← HDl.out]; exact iff_of_false (by decide) (fun h => h.2.2.1 (by rw [HDl.out]; exact R5.out))
        ·exact below_drewN ((((hbw2.setCell (by simp) _).setCell (by simp) _).setCell (by simp) _).setCell (by simp) _) 1
   ·have r2 : R2.toList.isEmpty = false := eq_false_of_ne_true r2
    have r2' : ¬ R2.toList = [] := fun e => by rw [e] at r2; cases r2
    go_region
    all_goals
      try go_wp2
      refine bodyPost_ret (v := .tuple #[.agg #[.bool b, .string N, .string D], .bool false]) (by simp [results, Tryz.results114, go_sem, d0, d1, d2]) rfl (FIN.out _ _ ?_ ?_)
      ·rw [← HRl.out]; simp [r2']
      ·exact below_drewN ((((hbw2.setCell (by simp) _).setCell (by simp) _).setCell (by simp) _).setCell (by simp) _) 1
  ·have t5 : R.toList.isEmpty = false := by assumption
   have t6 : ¬ 0 < R.size := by assumption
   have hR : r.dropWhile isD = R.toList := by rw [← HR.out, bs_toList]
   have : R.size = (r.dropWhile isD).length := by rw [← HR.out, bs_size]
   have h0 : r.dropWhile isD = [] := List.eq_nil_of_length_eq_zero (by omega)
   rw [← hR, h0] at t5; cases t5
  ·have t5 : ¬ N.toList = [] := by assumption
   have t6 : ¬ 0 < N.size := by assumption
   have hR : r.takeWhile isD = N.toList := by rw [← HN.out, bs_toList]
   have : N.size = (r.takeWhile isD).length := by rw [← HN.out, bs_size]
   have h0 : r.takeWhile isD = [] := List.eq_nil_of_length_eq_zero (by omega)
   exact absurd (hR.symm.trans h0) t5
end Go.Proofs.Tg
end
section
/- Walks: digits as one word. -/
namespace Go.Proofs.Tg
open Go.RowKit Go.Qn
set_option maxHeartbeats 1000000
set_option maxRecDepth 100000
theorem val_take (l : List UInt8) (k : Nat) (hk : k < l.length) : val (l.take (k + 1)) = 10 * val (l.take k) + (l[k].toNat - 48) := by
 rw [List.take_succ_eq_append_getElem hk, val_snoc]
end Go.Proofs.Tg
end
section
/- Walks: a number read. -/
namespace Go.Proofs.Tg
open Go.RowKit Go.Qn Go.Gr
set_option maxHeartbeats 4000000
set_option maxRecDepth 100000
theorem splitis_cases {l num den : List UInt8} {b ok : Bool} (h : SplitIs l b num den ok) : (ok = false ∧ rd l = none) ∨ (ok = true ∧ numOk num = true ∧ num.length ≤ l.length ∧ den = [] ∧ rd l = some (b, val num, 1)) ∨
    (ok = true ∧ numOk num = true ∧ num.length ≤ l.length ∧ den.length ≤ l.length ∧ den ≠ [] ∧ numOk den = true ∧ val num ≠ 0 ∧ val den ≠ 0 ∧ rd l = if Nat.gcd (val num) (val den) = 1 then some (b, val num, val den) else none) := by
  obtain ⟨h1, h2, h3, h4⟩ := h
  cases ok with
  | false => exact .inl ⟨rfl, h3 rfl⟩
  | true =>
    obtain ⟨a, b, c⟩ := h4 rfl
    by_cases hd : den = []
    ·exact .inr (.inl ⟨rfl, a, h1, hd, b hd⟩)
    ·exact .inr (.inr ⟨rfl, a, h1, h2, hd, (c hd).1, (c hd).2.1, (c hd).2.2.1, (c hd).2.2.2⟩)
end Go.Proofs.Tg
end
section
/- The reference's reading of a polynomial: well-formed or not. -/
namespace Go.Proofs.Tg
open Go.RowKit Go.Gr Go.Mo Go.Qn
set_option maxHeartbeats 4000000
set_option maxRecDepth 100000
/-- The same, where a condition on the world is held. -/
theorem wpAnyH_get {P : Program} {md : Region.Mode} {ops : Array Oper} {Q : Exit → Act → World → Prop} {S : World → Prop} (i : Nat) (d : Option Tmp) (v : Value) {oi : Oper} {fuel : Nat} {listed : Array Bool} {a : Act} {w : World} (hi : ops[i]? = some oi) (hd : oi.dst = d)
    (hs : Region.noSelect ops = true) (hf : Region.free md ops listed i = true) (hr : (Region.ready md ops listed).contains i = true) (hQ : ∀ c a w, Q (.panic c) (a.put d v) w → Q (.panic c) a w)
    (hw : Region.wanted oi (yielded ops a.tmps) = true) (hS : S w) (hy : ∀ w, S w → (execOp a.eval oi).run P w = .ok (.value v) w) (h : wpAnyH P md ops Q S fuel (listed.setIfInBounds i true) (a.put d v) w) : wpAnyH P md ops Q S (fuel + 1) listed a w := by
  subst hd
  exact wpAnyH_take hi hs hf hr hQ (.inl ⟨hw, hy⟩) hS h
end Go.Proofs.Tg
end
section
/- The reference's set of the round 0, in memory. -/
namespace Go.Proofs.Tg.Sx
open Go.RowKit Go.Gr Go.Sp Go.Ev Go.Mo Go.Qn
set_option maxHeartbeats 4000000
set_option maxRecDepth 100000
/-- A slice of numbers: where it lies, its capacity, the numbers. -/
abbrev Rw := Option Addr × Nat × List Int
def cellR (r : Rw) : Value := .slice r.1 r.2.2.length r.2.1
/-- Each of the slices lies in what was there from the first, or in a block of the call's own. -/
def RowsK (w0 w : World) (base : Nat) (rs : List Rw) : Prop := ∀ r ∈ rs, Ints w0 r.1 r.2.2 ∨ w.ownsRow base 3 1 (cellR r) r.2.2.length (r.2.2.map vi)
theorem RowsK.below {w0 w w' : World} {base : Nat} {rs : List Rw} (h : RowsK w0 w base rs) (hb : Below w.heap.size w w') : RowsK w0 w' base rs := fun r hr => (h r hr).imp id (fun h => own_below h hb (Nat.le_refl _))
theorem RowsK.kept {w0 w w' : World} {base base' n : Nat} {rs : List Rw} {V : Value} {xs : List Value} (h : RowsK w0 w base rs) (ho : w.ownsRow base' 22 1 V n xs) (hg : w.grownBy w' V.ownBlock) : RowsK w0 w' base rs :=
  fun r hr => (h r hr).imp id (fun h => h.kept hg (own_ne h ho (by decide)))
theorem RowsK.snoc {w0 w : World} {base : Nat} {rs : List Rw} {r : Rw} (h : RowsK w0 w base rs) (hr : Ints w0 r.1 r.2.2 ∨ w.ownsRow base 3 1 (cellR r) r.2.2.length (r.2.2.map vi)) : RowsK w0 w base (rs ++ [r]) := by
 intro x hx
 rcases List.mem_append.1 hx with hx | hx
 ·exact h x hx
 ·rw [List.mem_singleton.1 hx]; exact hr
theorem rows_lists {w0 w : World} {base c : Nat} {A : Option Addr} {rs : List Rw} (hS : Sl w A rs.length 1 (rs.map cellR)) (hK : RowsK w0 w base rs) (hb : Below w0.heap.size w0 w) : Lists w A (rs.map fun r => r.2.2) := by
 have _ := c
 refine ⟨fun i => ((rs.getD i (none, 0, [])).1, (rs.getD i (none, 0, [])).2.1), ?_, fun i hi => ?_⟩
 ·have e : (List.range (rs.map fun r => r.2.2).length).map (fun i => Value.slice (rs.getD i (none, 0, [])).1 ((rs.map fun r => r.2.2).getD i []).length (rs.getD i (none, 0, [])).2.1) = rs.map cellR := by
   refine List.ext_getElem (by simp) fun i h1 h2 => ?_
   have hi : i < rs.length := by simpa using h2
   simp [hi, cellR]
  rw [e, List.length_map]
  exact hS
 ·have hi' : i < rs.length := by simpa using hi
  have e1 : rs.getD i (none, 0, []) = rs[i] := by simp [hi']
  have e2 : (rs.map fun r => r.2.2).getD i [] = rs[i].2.2 := by simp [hi']
  simp only [e1, e2]
  rcases hK rs[i] (List.getElem_mem _) with h | h
  ·exact h.keep hb
  ·exact Sl.own h
end Go.Proofs.Tg.Sx
end
section
/- IsGroup of group. -/
namespace Go.Pm
/-- A list that is a group: permutations of the same few variables in ascending order, with the identity and all products. -/
def IsG (l : List (List Int)) : Prop := (l.headD []).length ≤ 6 ∧ l ≠ [] ∧ (∀ a ∈ l, Perm (l.headD []).length a) ∧ Asc l ∧ Grp (l.headD []).length l
end Go.Pm
namespace Go.Proofs.Tg.Gp
open Go.RowKit Go.Gr Go.Sp Go.Ev Go.Pm
open Go.Proofs.Tg.Sx (Rw cellR RowsK rows_lists)
set_option maxHeartbeats 1000000
set_option maxRecDepth 100000
/-- The first k elements are permutations, in order. -/
structure Pre (n : Nat) (l : List (List Int)) (k : Nat) : Prop where
  perm : ∀ i (h : i < l.length), i < k → l[i].length ≤ 6 ∧ Perm n l[i]
  asc : ∀ i (h : i + 1 < l.length), i + 1 < k → cmpL (l[i]'(by omega)) l[i + 1] < 0
theorem Pre.succ {n : Nat} {l : List (List Int)} {k : Nat} (h : Pre n l k) (hk : k < l.length) (h6 : l[k].length ≤ 6) (hp : Perm n l[k]) (ha : ∀ (_ : 0 < k), cmpL (l[k - 1]'(by omega)) l[k] < 0) : Pre n l (k + 1) := by
 refine ⟨fun i hi hik => ?_, fun i hi hik => ?_⟩
 ·by_cases he : i = k
  ·subst he; exact ⟨h6, hp⟩
  ·exact h.perm i hi (by omega)
 ·by_cases he : i + 1 = k
  ·subst he
   have := ha (by omega)
   simpa using this
  ·exact h.asc i hi (by omega)
theorem lists_nil (w : World) : Lists w none [] := ⟨fun _ => (none, 0), Sl.nil _ _ _, fun i hi => by simp at hi⟩
/-- What the second loop holds. -/
structure GrSt (w : World) (n : Nat) (l : List (List Int)) (wr : World) (k : Nat) (A : Option Addr) (c : Nat) (rs : List Rw) (mb : Nat) (S : List (List Int)) : Prop where
  below : Below w.heap.size w wr
  gen : IsGen n (rs.map fun r => r.2.2) S
  sub : ∀ g ∈ rs.map (fun r => r.2.2), g ∈ l
  all : ∀ i (h : i < l.length), i < k → Gen n (rs.map fun r => r.2.2) l[i]
  len : rs.length ≤ k
  own : wr.ownsRow w.heap.size 22 1 (.slice A rs.length c) rs.length (rs.map cellR)
  ints : ∀ r ∈ rs, Ints w r.1 r.2.2
  set : SetM wr mb S.length n S
  low : w.heap.size ≤ mb
theorem gp_isgroup (L : Option Addr) (cL : Nat) (l : List (List Int)) (v : Bool) (w : World) (hL : Lists w L l) (hl : l.length ≤ 100000) (hll : ∀ x ∈ l, x.length ≤ 1000) (hv : v = true ↔ IsG l) :
    Calls Tryz.prog 42 #[.slice L l.length cL] w fun e w' => e = .returned (.bool v) ∧ Below w.heap.size w w' := by
  have HV := Lib.hid hv
  have HL := Lib.hid hL
  have HLL := Lib.hid hll
  obtain ⟨j0, hj0, hjz0, hjz1, hjz2⟩ := info_parts prow_info
  clear hv hL hll
  cases l with
  | nil =>
    obtain rfl : v = false := eq_false_of_ne_true (fun h => (HV.out.1 h).2.1 rfl)
    go_enter Tryz.func42, Tryz.ntmps42
    go_wp2
    go_ret
    exact ⟨rfl, Below.refl _ _⟩
  | cons a0 l0 =>
    obtain ⟨l, hlE⟩ : ∃ l, a0 :: l0 = l := ⟨_, rfl⟩
    have hpos : 0 < l.length := by rw [← hlE]; simp
    have hn0 : (l.headD []).length = l[0].length := by subst hlE; rfl
    have hne : l ≠ [] := by rw [← hlE]; simp
    rw [hlE] at HV HL HLL hl ⊢
    clear hlE
    obtain ⟨n, hn⟩ : ∃ n, l[0].length = n := ⟨_, rfl⟩
    have HVN : Hid (v = true ↔ n ≤ 6 ∧ (∀ a ∈ l, Perm n a) ∧ Asc l ∧ Grp n l) := Lib.hid (by
     rw [HV.out]
     unfold IsG
     rw [hn0, hn]
     exact ⟨fun h => ⟨h.1, h.2.2⟩, fun h => ⟨h.1, hne, h.2⟩⟩)
    obtain ⟨ad, E0, ce0, rfl, hc0, hE0⟩ := HL.out.at hpos
    rw [hn] at hc0
    have hzl : ((l.length : Int) == 0) = false := beq_eq_false_iff_ne.2 (by omega)
    have p0 : (0 : Int) < (l.length : Int) := by omega
    have hc0' : w.cell? ad = some (.slice E0 n ce0) := by
     have e : ad.add 0 = ad := by unfold Addr.add; split <;> simp_all
     rwa [e] at hc0
    clear hn0 hne hE0 HV
    have HN := Lib.hid hn
    clear hn
    go_enter Tryz.func42, Tryz.ntmps42
    go_wp2
    clear hc0 hc0'
    go_loopw [19] (fun s19 wr => ∃ k : Nat, s19 = .int .i64 k ∧ k ≤ l.length ∧ Hid (Pre n l k) ∧ Below w.heap.size w wr) (fun s19 _ => l.length - (intOf s19).toNat)
    case atStart => exact ⟨0, rfl, Nat.zero_le _, Lib.hid ⟨fun i _ h => by omega, fun i _ h => by omega⟩, Below.refl _ _⟩
    case round =>
     obtain ⟨wo, rfl⟩ : ∃ wo : World, wo = wr := ⟨_, rfl⟩
     obtain ⟨k, rfl, hk, HPRE, hbo⟩ := hrel
     by_cases hkl : k < l.length
     ·obtain ⟨ad', E, ce, had, hc, hE⟩ := (HL.out.keep hbo).at hkl
      injection had with had
      subst had
      have q0 : (0 : Int) ≤ (k : Int) := by omega
      have q1 : (k : Int) < (l.length : Int) := by omega
      have q3 : ((k : Int)).toNat = k := by omega
      have hxl := HLL.out l[k] (List.getElem_mem _)
      by_cases hval : l[k].length ≤ 6 ∧ Perm l[k].length l[k]
      ·have HVL := Lib.hid (gvalid_any E ce l[k] true wo hE (by omega) ⟨fun _ => hval, fun _ => rfl⟩)
       by_cases hlen : l[k].length = n
       ·have hlb : ((l[k].length : Int) != (n : Int)) = false := by simp [hlen]
        have hpn : Perm n l[k] := by rw [← hlen]; exact hval.2
        by_cases hk0 : k = 0
        ·have hg0 : decide ((0 : Int) < (k : Int)) = false := decide_eq_false (by omega)
         have hg0' : decide (0 < k) = false := decide_eq_false (by omega)
         have HP2 := Lib.hid (HPRE.out.succ hkl hval.1 hpn (fun h => absurd h (by omega)))
         clear hval hpn hk0 hlen
         generalize l[k] = x at *
         go_wp2_with (go_at_call 74; refine HVL.out.mono ?_; rintro e w1 ⟨rfl, hb1⟩)
         go_roundw
         case rel => exact ⟨k + 1, by go_num, by omega, HP2, below_all hbo hb1⟩
         case measure => simp [intOf]; omega
        ·obtain ⟨m, hkm⟩ : ∃ m, k = m + 1 := ⟨k - 1, by omega⟩
         have hk1 : m < l.length := by omega
         obtain ⟨ad', E1, ce1, had, hc1, hE1⟩ := (HL.out.keep hbo).at hk1
         injection had with had
         subst had
         have hg0 : decide ((0 : Int) < (k : Int)) = true := decide_eq_true (by omega)
         have hg0' : decide (0 < k) = true := decide_eq_true (by omega)
         have ww1 : IntKind.i64.wrap ((k : Int) - 1) = (m : Int) := by rw [IntWalk.i64_in _ (by omega)]; omega
         have r0 : (0 : Int) ≤ (m : Int) := by omega
         have r1 : (m : Int) < (l.length : Int) := by omega
         have r3 : ((m : Int)).toNat = m := by omega
         have hyl := HLL.out (l[m]'hk1) (List.getElem_mem _)
         have hcmp := fun V (h : Below wo.heap.size wo V) => Gx.compare_any E1 E ce1 ce (l[m]'hk1) l[k] V (hE1.keep h) (hE.keep h) (by omega)
         by_cases hlt : cmpL (l[m]'hk1) l[k] < 0
         ·have hd : decide (0 ≤ cmpL (l[m]'hk1) l[k]) = false := decide_eq_false (by omega)
          have HP2 := Lib.hid (HPRE.out.succ hkl hval.1 hpn (fun _ => (by
           have e : k - 1 = m := by omega
           simp only [e]
           exact hlt)))
          clear hval hpn hlt hkm hk0 hlen
          generalize cmpL (l[m]'hk1) l[k] = z at *
          generalize l[m]'hk1 = y at *
          generalize l[k] = x at *
          have HCM : Hid (∀ V, Below wo.heap.size wo V → Calls Tryz.prog 51 #[.slice E1 y.length ce1, .slice E x.length ce] V fun e w' => e = .returned (.int .i64 z) ∧ V = w') := Lib.hid hcmp
          clear hcmp hE hE1
          go_wp2_with (first
            | (go_at_call 74; refine HVL.out.mono ?_; rintro e w1 ⟨rfl, hb1⟩
               have hc1 := keep_cell hb1 hc1)
            | (go_at_call 51; refine (HCM.out _ hb1).mono ?_; rintro e w2 ⟨rfl, rfl⟩))
          go_roundw
          case rel => exact ⟨k + 1, by go_num, by omega, HP2, below_all hbo hb1⟩
          case measure => simp [intOf]; omega
         ·have hd : decide (0 ≤ cmpL (l[m]'hk1) l[k]) = true := decide_eq_true (by omega)
          obtain rfl : v = false := eq_false_of_ne_true (fun h => hlt ((HVN.out.1 h).2.2.1.lt hk1 hkl (by omega)))
          clear hval hpn hlt hkm hk0 hlen
          generalize cmpL (l[m]'hk1) l[k] = z at *
          generalize l[m]'hk1 = y at *
          generalize l[k] = x at *
          have HCM : Hid (∀ V, Below wo.heap.size wo V → Calls Tryz.prog 51 #[.slice E1 y.length ce1, .slice E x.length ce] V fun e w' => e = .returned (.int .i64 z) ∧ V = w') := Lib.hid hcmp
          clear hcmp hE hE1
          go_wp2_with (first
            | (go_at_call 74; refine HVL.out.mono ?_; rintro e w1 ⟨rfl, hb1⟩
               have hc1 := keep_cell hb1 hc1)
            | (go_at_call 51; refine (HCM.out _ hb1).mono ?_; rintro e w2 ⟨rfl, rfl⟩))
          go_ret
          exact ⟨rfl, below_all hbo hb1⟩
       ·have hlb : ((l[k].length : Int) != (n : Int)) = true := by simp; omega
        obtain rfl : v = false := eq_false_of_ne_true (fun h => hlen ((HVN.out.1 h).2.1 _ (List.getElem_mem _)).1)
        clear hval hlen
        generalize l[k] = x at *
        go_wp2_with (go_at_call 74; refine HVL.out.mono ?_; rintro e w1 ⟨rfl, hb1⟩)
        go_ret
        exact ⟨rfl, below_all hbo hb1⟩
      ·have HVL := Lib.hid (gvalid_any E ce l[k] false wo hE (by omega) (Iff.intro (fun h => by cases h) (fun h => absurd h hval)))
       obtain rfl : v = false := eq_false_of_ne_true (fun h => hval (by
        have h1 := HVN.out.1 h
        have h2 := h1.2.1 l[k] (List.getElem_mem _)
        rw [h2.1]
        exact ⟨h1.1, h2⟩))
       clear hval
       generalize l[k] = x at *
       go_wp2_with (go_at_call 74; refine HVL.out.mono ?_; rintro e w1 ⟨rfl, hb1⟩)
       go_ret
       exact ⟨rfl, below_all hbo hb1⟩
     ·obtain rfl : k = l.length := by omega
      have hpl : ∀ a ∈ l, Perm n a := fun a ha => by
       obtain ⟨i, hi, rfl⟩ := List.getElem_of_mem ha
       exact (HPRE.out.perm i hi hi).2
      have hn6 : n ≤ 6 := by
       have h1 := HPRE.out.perm 0 hpos hpos
       have := h1.2.1
       omega
      have hasc : Asc l := asc_of fun i hi => HPRE.out.asc i hi hi
      have HVG : Hid (v = true ↔ Grp n l) := Lib.hid (by
       rw [HVN.out]
       exact ⟨fun h => h.2.2.2, fun h => ⟨hn6, hpl, hasc, h⟩⟩)
      have HPL := Lib.hid hpl
      have HND := Lib.hid hasc.nodup
      have HC0 : Hid (∀ V, Calls Tryz.prog 75 #[.int .i64 n, .slice none 0 0] V fun e w' => ∃ mb S, e = .returned (.map (some mb)) ∧ IsGen n [] S ∧ SetM w' mb S.length n S ∧ V.heap.size ≤ mb ∧ Below V.heap.size V w') := Lib.hid (fun V => gp_closure none 0 n [] V (lists_nil V) (fun g h => absurd h (by simp)) hn6 (by simp))
      have HCL : Hid (∀ V A c gs, Lists V A gs → (∀ g ∈ gs, Perm n g) → gs.length ≤ 1000000 → Calls Tryz.prog 75 #[.int .i64 n, .slice A gs.length c] V fun e w' => ∃ mb S, e = .returned (.map (some mb)) ∧ IsGen n gs S ∧ SetM w' mb S.length n S ∧ V.heap.size ≤ mb ∧ Below V.heap.size V w') := Lib.hid (fun V A c gs h1 h2 h3 => gp_closure A c n gs V h1 h2 hn6 h3)
      have dk : decide ((l.length : Int) < (l.length : Int)) = false := by simp
      clear hpl hasc HPRE HVN
      go_wp2_with (go_at_call 75; refine (HC0.out _).mono ?_; rintro e w1 ⟨mb, S, rfl, hIG, hS, hlow, hb1⟩)
      have hbw := below_all hbo hb1
      have hlow' : w.heap.size ≤ mb := Nat.le_trans hbo.size hlow
      clear dk HC0 hlow
      go_loopw [52, 6, 7] (fun s52 s6 s7 wr => ∃ (k : Nat) (A : Option Addr) (c : Nat) (rs : List Rw) (mb : Nat) (S : List (List Int)), s52 = .int .i64 k ∧ k ≤ l.length ∧ s6 = .slice A rs.length c ∧ s7 = .map (some mb) ∧ Hid (GrSt w n l wr k A c rs mb S)) (fun s52 _ _ _ => l.length - (intOf s52).toNat)
      case atStart => exact ⟨0, none, 0, [], mb, S, rfl, Nat.zero_le _, rfl, rfl, Lib.hid ⟨hbw, hIG, (fun g h => absurd h (by simp)), (fun i _ h => absurd h (by omega)), Nat.le_refl _, World.ownsRow_nil _ _ _ _, (fun r h => absurd h (by simp)), hS, hlow'⟩⟩
      case round =>
       clear hbw hIG hS hlow'
       obtain ⟨wi, rfl⟩ : ∃ wi : World, wi = wr := ⟨_, rfl⟩
       obtain ⟨k, A, c, rs, mb, S, rfl, hk2, rfl, rfl, HST⟩ := hrel
       have hbi := HST.out.below
       by_cases hkl2 : k < l.length
       ·obtain ⟨ad', E, ce, had, hc, hE⟩ := HL.out.at hkl2
        injection had with had
        subst had
        have hc := keep_cell hbi hc
        have q0 : (0 : Int) ≤ (k : Int) := by omega
        have q1 : (k : Int) < (l.length : Int) := by omega
        have q3 : ((k : Int)).toNat = k := by omega
        have hpk := HPL.out l[k] (List.getElem_mem _)
        have hlen := hpk.1
        have hdk := perm_dom hn6 hpk
        have hky := keyOf_any E ce l[k] wi (hE.keep hbi) (by omega)
        rw [hlen] at hc hky
        have HKY := Lib.hid hky
        clear hky
        by_cases hin : l[k] ∈ S
        ·have hdec : decide (l[k] ∈ S) = true := decide_eq_true hin
         have HS2 : Hid (∀ V, Below wi.heap.size wi V → GrSt w n l V (k + 1) A c rs mb S) := Lib.hid (fun V h =>
          ⟨below_all hbi h, HST.out.gen, HST.out.sub, fun i hi hik => by
           by_cases he : i = k
           ·subst he; exact (HST.out.gen.2 _).1 hin
           ·exact HST.out.all i hi (by omega), Nat.le_succ_of_le HST.out.len, own_below HST.out.own h (Nat.le_refl _), HST.out.ints, HST.out.set.below h HST.out.set.lt, HST.out.low⟩)
         have hset := HST.out.set
         clear hin hpk hlen hE
         generalize l[k] = x at *
         go_wp2_with (go_at_call 76; refine HKY.out.mono ?_; rintro e w4 ⟨rfl, hb4⟩
                      have hlook := (hset.below hb4 hset.lt).look hdk hdec)
         go_roundw
         case rel => exact ⟨k + 1, A, c, rs, mb, S, by go_num, by omega, rfl, rfl, Lib.hid (HS2.out _ hb4)⟩
         case measure => simp [intOf]; omega
        ·have hdec : decide (l[k] ∈ S) = false := decide_eq_false hin
         have hrl := HST.out.len
         have HIK := Lib.hid hE
         have HSUB : Hid (∀ g ∈ (rs ++ [(E, ce, l[k])]).map (fun r => r.2.2), g ∈ l) := Lib.hid (fun g hg => by
          rw [List.map_append] at hg
          rcases List.mem_append.1 hg with h | h
          ·exact HST.out.sub g h
          ·rw [List.mem_singleton.1 h]; exact List.getElem_mem _)
         have HPG : Hid (∀ g ∈ (rs ++ [(E, ce, l[k])]).map (fun r => r.2.2), Perm n g) := Lib.hid (fun g hg => HPL.out g (HSUB.out g hg))
         have HALL : Hid (∀ i (h : i < l.length), i < k + 1 → Gen n ((rs ++ [(E, ce, l[k])]).map fun r => r.2.2) l[i]) := Lib.hid (fun i hi hik => by
          by_cases he : i = k
          ·subst he
           exact Gen.mem HPG.out (by simp)
          ·refine Gen.mono (fun g hg => ?_) (HST.out.all i hi (by omega))
           rw [List.map_append]
           exact List.mem_append_left _ hg)
         have HRS : Hid (∀ r ∈ rs ++ [(E, ce, l[k])], Ints w r.1 r.2.2) := Lib.hid (fun r hr => by
          rcases List.mem_append.1 hr with h | h
          ·exact HST.out.ints r h
          ·rw [List.mem_singleton.1 h]; exact HIK.out)
         have hset := HST.out.set
         have hcr : cellR (E, ce, l[k]) = .slice E n ce := by simp [cellR, hlen]
         have HCR := Lib.hid hcr
         clear hin hpk hlen hE hcr
         generalize l[k] = x at *
         have hrl2 : rs.length ≤ 100000 := by omega
         go_upto_region 18 with (first
           | (go_at_call 76; refine HKY.out.mono ?_; rintro e w4 ⟨rfl, hb4⟩
              have hlook := (hset.below hb4 hset.lt).look hdk hdec)
           | (at_builtin
              have hown4 := own_below HST.out.own hb4 (Nat.le_refl _)
              have hb4w := below_all hbi hb4
              refine wpList_append_own _ rfl _ _ 23 rfl w.heap.size 22 j0 (.slice none 0 0) 1 24 Tryz.underlying23 hj0 hjz0 hjz1 hjz2 rfl (by decide) (.slice A rs.length c) rs.length (rs.map cellR) rfl (hown4.alloc _) ⟨w4.heap.size, 0, none⟩ 1 1 [.slice E n ce] rfl rfl (cell_one_new _ _ _) (by simp [Value.oneCell']) (by simp only [maxLen]; omega) (by omega) (by have := hb4w.size; simp; omega) ?_
              intro v' w5 hown5 hg5 _
              obtain ⟨A5, c5, hv5, _, _⟩ := Sl.of_own hown5
              subst hv5
              have hb5 := (hb4w.alloc hb4w.size (.cells #[.slice E n ce] 22)).grown hg5 (by have := hb4w.size; simp; omega) (fun j hj => (hown4.lt j hj).1)
              have hown6 : w5.ownsRow w.heap.size 22 1 (.slice A5 (rs ++ [(E, ce, x)]).length c5) (rs ++ [(E, ce, x)]).length ((rs ++ [(E, ce, x)]).map cellR) := by
               rw [List.length_append, List.map_append, List.map_singleton, HCR.out]; exact hown5
              have hL5 := rows_lists (c := c5) (Sl.own hown6) (fun r hr => .inl (HRS.out r hr) : RowsK w w5 w.heap.size _) hb5
              have hl5 : ((rs ++ [(E, ce, x)]).map fun r => r.2.2).length ≤ 1000000 := by simp; omega
              have hcl := HCL.out w5 A5 c5 _ hL5 HPG.out hl5
              rw [List.length_map] at hcl
              have HCL5 := Lib.hid hcl
              have hrl5 : (rs ++ [(E, ce, x)]).length = rs.length + 1 := by simp
              clear hcl hL5 hl5)
           | (go_at_call 75
              have hcl2 := HCL5.out
              rw [hrl5] at hcl2
              refine hcl2.mono ?_; rintro e w6 ⟨mb6, S6, rfl, hIG6, hS6, hlow6, hb6⟩
              have hlenm := fun ty => SetM.len hS6 ty))
         have hb6w := below_all hb5 hb6
         have hlow6' : w.heap.size ≤ mb6 := Nat.le_trans hb5.size hlow6
         clear hlook HKY HCL5 hset
         by_cases hov : l.length < S6.length
         ·have d1 : decide ((l.length : Int) < (S6.length : Int)) = true := decide_eq_true (by omega)
          have d2 : decide (l.length < S6.length) = true := decide_eq_true hov
          obtain rfl : v = false := eq_false_of_ne_true (fun h => hIG6.over HSUB.out hov (HVG.out.1 h))
          clear hov
          go_wp2
          go_ret
          exact ⟨rfl, hb6w⟩
         ·have d1 : decide ((l.length : Int) < (S6.length : Int)) = false := decide_eq_false (by omega)
          have d2 : decide (l.length < S6.length) = false := decide_eq_false hov
          clear hov
          go_wp2
          go_roundw
          case rel => exact ⟨k + 1, A5, c5, rs ++ [(E, ce, x)], mb6, S6, by go_num, by omega, by simp, rfl, Lib.hid ⟨hb6w, hIG6, HSUB.out, HALL.out, by simp; omega, own_below hown6 hb6 (Nat.le_refl _), HRS.out, hS6, hlow6'⟩⟩
          case measure => simp [intOf]; omega
       ·obtain rfl : k = l.length := by omega
        have dk : decide ((l.length : Int) < (l.length : Int)) = false := by simp
        have hlenm := fun ty => SetM.len HST.out.set ty
        have hiff := HST.out.gen.grp HND.out HPL.out HST.out.sub (fun a ha => by
         obtain ⟨i, hi, rfl⟩ := List.getElem_of_mem ha
         exact HST.out.all i hi hi)
        have hq : ((S.length : Int) == (l.length : Int)) = v := by
         cases v with
         | true => exact beq_iff_eq.2 (by have := hiff.2 (HVG.out.1 rfl); omega)
         | false => exact beq_eq_false_iff_ne.2 (fun e => by have := HVG.out.2 (hiff.1 (by omega)); cases this)
        have hq' : (S.length == l.length) = v := by
         cases v with
         | true => simpa using hiff.2 (HVG.out.1 rfl)
         | false => exact beq_eq_false_iff_ne.2 (fun e => by have := HVG.out.2 (hiff.1 e); cases this)
        clear hiff
        go_wp2
        go_ret
        exact ⟨rfl, HST.out.below⟩
end Go.Proofs.Tg.Gp
end
