/- Parts of the proof: WS2, WI1, G1, WI2, WI3, WI4. -/
import Derived.RegionTactic
import Derived.ChangeAlike
import Derived.OwnWalk
import Derived.Lib.TrailingZeros
import Derived.StillTailTactics
import Derived.Deep.RegionHeld3
import Derived.Deep.DeepCutAuto
import Derived.Test.YtbgaiceakmmfdaaGreatDoorMMR0
import Derived.Test.YtbgaiceakmmfdaaGreatDoorMMR1
set_option maxHeartbeats 64000000
set_option maxRecDepth 100000
namespace Go.Proofs.Tg
section
open Go.RowKit Go.Qn
def RetSplit (l : List UInt8) (w : World) (e : Ending) (w' : World) : Prop :=
  ∃ b num den ok, e = .returned (.tuple #[.agg #[.bool b, .string (bs num), .string (bs den)], .bool ok]) ∧ SplitIs l b num den ok ∧ Below w.heap.size w w'
theorem bs_toList (l : List UInt8) : (bs l).toList = l := by rw [Lib.toList_data, bs_data]
theorem bs_pos {l : List UInt8} (h : l ≠ []) : 0 < (bs l).size := by rw [bs_size]; exact List.length_pos_iff.2 h
theorem split_fin {l num den : List UInt8} {b ok : Bool} {N D : ByteArray} {w w' : World} (hN : bs num = N) (hD : bs den = D) (h : SplitIs l b num den ok) (hb : Below w.heap.size w w') :
    RetSplit l w (.returned (.tuple #[.agg #[.bool b, .string N, .string D], .bool ok])) w' := by
  subst hN hD; exact ⟨b, num, den, ok, rfl, h, hb⟩
theorem bs_nil : bs [] = ByteArray.empty := rfl
theorem of_head {l : List UInt8} {N : ByteArray} (hN : bs l = N) {h : 0 < N.size} {c : UInt8} (k : (((N[0]).toNat : Int) == (c.toNat : Int)) = true) : l.head? = some c := by
 subst hN
 cases l with
 | nil => exact absurd h (by decide)
 | cons x t =>
   have e : (x.toNat : Int) = (c.toNat : Int) := eq_of_beq k; have : x = c := UInt8.toNat_inj.1 (by omega); rw [this]; rfl
theorem of_not_head {l : List UInt8} {N : ByteArray} (hN : bs l = N) {h : 0 < N.size} {c : UInt8} (k : (((N[0]).toNat : Int) == (c.toNat : Int)) = false) : l.head? ≠ some c := by
 subst hN
 cases l with
 | nil => simp
 | cons x t =>
   have e : ¬ (x.toNat : Int) = (c.toNat : Int) := ne_of_beq_false k; simp only [List.head?_cons, ne_eq, Option.some.injEq]; rintro rfl; exact e rfl
def RetSplit2 (l : List UInt8) (w : World) (e : Ending) (w' : World) : Prop :=
  ∃ b num den ok, e = .returned (.tuple #[.agg #[.bool b, .string (bs num), .string (bs den)], .bool ok]) ∧ (SplitIs l b num den ok ∧ b = (cut l).1 ∧ num = (cut l).2.takeWhile isD ∧ (den = [] ∨ den = ((cut l).2.dropWhile isD).tail.takeWhile isD)) ∧ Below w.heap.size w w'
theorem split_fin2 {l den r : List UInt8} {b ok : Bool} {N D : ByteArray} {w w' : World} (hden : den = [] ∨ den = (r.dropWhile isD).tail.takeWhile isD) (hc : cut l = (b, r)) (hN : bs (r.takeWhile isD) = N) (hD : bs den = D) (h : SplitIs l b (r.takeWhile isD) den ok) (hb : Below w.heap.size w w') :
    RetSplit2 l w (.returned (.tuple #[.agg #[.bool b, .string N, .string D], .bool ok])) w' := by
  subst hN hD; exact ⟨b, _, den, ok, rfl, ⟨h, by rw [hc], by rw [hc], by rw [hc]; exact hden⟩, hb⟩
set_option maxHeartbeats 4000000 in
theorem split_moreL (s : ByteArray) (w : World) (hs : s.size ≤ 4000) :
    Calls Tryz.prog 37 #[.string s] w (RetSplit2 s.data.toList w) := by
  obtain ⟨b, r, hc⟩ : ∃ b r, cut s.data.toList = (b, r) := ⟨_, _, rfl⟩
  have HC : Hid (∀ W, Calls Tryz.prog 65 #[.string s, .string ⟨#[45]⟩] W fun e w' => e = .returned (.tuple #[.string (bs r), .bool b]) ∧ W = w') := zh (fun W => by
   have := cutp_anyL s W hs
   rwa [hc] at this)
  have hrl : r.length ≤ 4000 := by
   have := (spl_len hc).2; rw [len_size] at this; omega
  obtain ⟨N, hN⟩ := eqx (bs (r.takeWhile isD)); obtain ⟨R, hR⟩ := eqx (bs (r.dropWhile isD))
  have HD : Hid (∀ W, Calls Tryz.prog 66 #[.string (bs r)] W fun e w' => e = .returned (.tuple #[.string N, .string R]) ∧ Below W.heap.size W w') := zh (fun W => by
   have := digits_anyL (bs r) W (by rw [bs_size]; exact hrl)
   rwa [bs_data, hN, hR] at this)
  have HN := zh hN; have HR := zh hR; have Hc := zh hc; clear hN hR hc; go_enter Tryz.func37, Tryz.ntmps37
  go_wp2_with (go_at_call 65; refine (HC.out _).mono ?_; rintro e w' ⟨rfl, rfl⟩)
  with_reducible refine (HD.out _).mono ?_
  rintro e w1 ⟨rfl, hb1⟩
  have B4 : Blk w1 (w.heap.size + 1) 83 #[.bool b, .string ByteArray.empty, .string ByteArray.empty] := by
   have := (Blk.new (w.alloc (.cells #[.bool false, .string ByteArray.empty, .string ByteArray.empty] 83)) 83 #[.bool b, .string ByteArray.empty, .string ByteArray.empty]).keep hb1 (by simp); simpa using this
  have B2 : Blk w1 w.heap.size 83 #[.bool false, .string ByteArray.empty, .string ByteArray.empty] :=
    ((Blk.new w 83 #[.bool false, .string ByteArray.empty, .string ByteArray.empty]).alloc _).keep hb1 (by simp; omega)
  have hbw : Below w.heap.size w w1 := ((bal).alloc (by simp) _).trans (hb1.mono (by simp; omega)); have hz : w.heap.size + 1 < w1.heap.size := B4.lt; have HB4 := zh B4; have HB2 := zh B2; have c0 := B4.cell 0; have c1 := B4.cell 1; have c2 := B4.cell 2; have f0 := B4.frozen 0; have f1 := B4.frozen 1; have f2 := B4.frozen 2; have d0 := B2.cell 0; have d1 := B2.cell 1; have d2 := B2.cell 2; have e0 := B2.frozen 0; have e1 := B2.frozen 1; have e2 := B2.frozen 2; clear hb1 B4 B2; simp at c0 c1 c2 d0 d1 d2; go_wp2_with (fail)
  ·have t1 : (N.toList == [48]) = true := by assumption
   have t2 : b = true := by assumption
   subst t2; refine bodyPost_ret (v := .tuple #[.agg #[.bool true, .string N, .string ByteArray.empty], .bool false]) (by simp [results, Tryz.results37, go_sem, d0, d1, d2]) rfl (split_fin2 (.inl rfl) Hc.out HN.out bs_nil (spl_zero Hc.out ?_) ?_)
   ·rw [← bs_toList (r.takeWhile isD), HN.out]; simpa using t1
   ·exact (((hbw.setCell (by simp) _).setCell (by simp) _).setCell (by simp) _).setCell (by simp) _
  ·have t1 : (N.toList == [48]) = true := by assumption
   have t2 : ¬ b = true := by assumption
   obtain rfl : b = false := eq_false_of_ne_true t2; refine bodyPost_ret (v := .tuple #[.agg #[.bool false, .string N, .string ByteArray.empty], .bool R.toList.isEmpty]) (by simp [results, Tryz.results37, go_sem, d0, d1, d2]) rfl (split_fin2 (.inl rfl) Hc.out HN.out bs_nil ?_ ?_)
   ·have := spl_zero Hc.out (by rw [← bs_toList (r.takeWhile isD), HN.out]; simpa using t1); rw [← HR.out, bs_toList]; simpa using this
   ·exact (((hbw.setCell (by simp) _).setCell (by simp) _).setCell (by simp) _).setCell (by simp) _
  ·have t1 : (N.toList == [48]) = false := by assumption
   have t2 : N.toList = [] := by assumption
   refine bodyPost_ret (v := .tuple #[.agg #[.bool b, .string N, .string ByteArray.empty], .bool false]) (by simp [results, Tryz.results37, go_sem, d0, d1, d2]) rfl (split_fin2 (.inl rfl) Hc.out HN.out bs_nil (spl_bad Hc.out ?_ (.inl ?_)) ?_)
   ·rw [← bs_toList (r.takeWhile isD), HN.out]; simpa using t1
   ·rw [← bs_toList (r.takeWhile isD), HN.out]; exact t2
   ·exact (((hbw.setCell (by simp) _).setCell (by simp) _).setCell (by simp) _).setCell (by simp) _
  ·have t1 : (N.toList == [48]) = false := by assumption
   have t3 : ¬ N.toList = [] := by assumption
   have t4 : 0 < N.size := by assumption
   have t2 : N.toList.isEmpty = true ∨ ((N[0].toNat : Int) == 48) = true := by assumption
   refine bodyPost_ret (v := .tuple #[.agg #[.bool b, .string N, .string ByteArray.empty], .bool false]) (by simp [results, Tryz.results37, go_sem, d0, d1, d2]) rfl (split_fin2 (.inl rfl) Hc.out HN.out bs_nil (spl_bad Hc.out ?_ (.inr ?_)) ?_)
   ·rw [← bs_toList (r.takeWhile isD), HN.out]; simpa using t1
   ·rcases t2 with t2 | t2
    ·exact absurd (List.isEmpty_iff.1 t2) t3
    ·exact of_head HN.out (c := 48) t2
   ·exact (((hbw.setCell (by simp) _).setCell (by simp) _).setCell (by simp) _).setCell (by simp) _
  ·have t1 : (N.toList == [48]) = false := by assumption
   have t3 : ¬ N.toList = [] := by assumption
   have t4 : 0 < N.size := by assumption
   have t2 : N.toList.isEmpty = false ∧ ((N[0].toNat : Int) == 48) = false := by assumption
   have t5 : R.toList.isEmpty = true := by assumption
   refine bodyPost_ret (v := .tuple #[.agg #[.bool b, .string N, .string ByteArray.empty], .bool true]) (by simp [results, Tryz.results37, go_sem, d0, d1, d2]) rfl (split_fin2 (.inl rfl) Hc.out HN.out bs_nil (spl_whole Hc.out ?_ ?_ ?_) ?_)
   ·rw [← bs_toList (r.takeWhile isD), HN.out]; simpa using t1
   ·rintro (h | h)
    ·exact t3 (by rw [← HN.out, bs_toList]; exact h)
    ·exact of_not_head HN.out (c := 48) t2.2 h
   ·rw [← bs_toList (r.dropWhile isD), HR.out]; exact List.isEmpty_iff.1 t5
   ·exact (((hbw.setCell (by simp) _).setCell (by simp) _).setCell (by simp) _).setCell (by simp) _
  ·have t1 : (N.toList == [48]) = false := by assumption
   have t3 : ¬ N.toList = [] := by assumption
   have t4 : 0 < N.size := by assumption
   have t2 : N.toList.isEmpty = false ∧ ((N[0].toNat : Int) == 48) = false := by assumption
   have t5 : R.toList.isEmpty = false := by assumption
   have t6 : 0 < R.size := by assumption
   have t7 : ((R[0].toNat : Int) != 47) = true := by assumption
   have hR : r.dropWhile isD = R.toList := by rw [← HR.out, bs_toList]
   obtain ⟨c, t, hct⟩ : ∃ c t, r.dropWhile isD = c :: t := by
    cases hh : r.dropWhile isD with
    | nil => rw [hh] at hR; rw [← hR] at t5; cases t5
    | cons c t => exact ⟨c, t, rfl⟩
   refine bodyPost_ret (v := .tuple #[.agg #[.bool b, .string N, .string ByteArray.empty], .bool false]) (by simp [results, Tryz.results37, go_sem, d0, d1, d2]) rfl (split_fin2 (.inl rfl) Hc.out HN.out bs_nil (spl_slash Hc.out ?_ ?_ hct ?_) ?_)
   ·rw [← bs_toList (r.takeWhile isD), HN.out]; simpa using t1
   ·rintro (h | h)
    ·exact t3 (by rw [← HN.out, bs_toList]; exact h)
    ·exact of_not_head HN.out (c := 48) t2.2 h
   ·have := of_not_head HR.out (c := 47) (h := t6) (by simpa using t7); rw [hct] at this; simpa using this
   ·exact (((hbw.setCell (by simp) _).setCell (by simp) _).setCell (by simp) _).setCell (by simp) _
  ·have t1 : (N.toList == [48]) = false := by assumption
   have t3 : ¬ N.toList = [] := by assumption
   have t4 : 0 < N.size := by assumption
   have t2 : N.toList.isEmpty = false ∧ ((N[0].toNat : Int) == 48) = false := by assumption
   have t5 : R.toList.isEmpty = false := by assumption
   have t6 : 0 < R.size := by assumption
   have t7 : ((R[0].toNat : Int) != 47) = false := by assumption
   have hR : r.dropWhile isD = R.toList := by rw [← HR.out, bs_toList]
   obtain ⟨t, hct⟩ : ∃ t, r.dropWhile isD = 47 :: t := by
    have := of_head HR.out (c := 47) (h := t6) (by simpa using t7)
    cases hh : r.dropWhile isD with
    | nil => rw [hh] at this; cases this
    | cons c t => rw [hh] at this; injection this with this; subst this; exact ⟨t, rfl⟩
   have hext : R.extract 1 R.size = bs t := by rw [ext_end, ← HR.out, bs_data, hct]; rfl
   have htl : t.length ≤ 4000 := by
    have a2 := dw_len isD r; rw [hct, List.length_cons] at a2; omega
   obtain ⟨D, hD⟩ := eqx (bs (t.takeWhile isD)); obtain ⟨R2, hR2⟩ := eqx (bs (t.dropWhile isD))
   have HD2 : Hid (∀ W, Calls Tryz.prog 66 #[.string (R.extract 1 R.size)] W fun e w' => e = .returned (.tuple #[.string D, .string R2]) ∧ Below W.heap.size W w') := zh (fun W => by
    have := digits_anyL (bs t) W (by rw [bs_size]; exact htl)
    rwa [bs_data, hD, hR2, ← hext] at this)
   have HDD := zh hD; have HR2 := zh hR2; have Hct := zh hct; have T1 := zh t1; have T2 := zh t2; clear hD hR2 hct hR hext t1 t2 t7
   with_reducible refine (HD2.out _).mono ?_
   rintro e w2 ⟨rfl, hb2⟩; have B4 : Blk w2 (w.heap.size + 1) 83 #[.bool b, .string N, .string ByteArray.empty] := (HB4.out.set 1 (.string N)).keep hb2 (by simp; omega); have B2 : Blk w2 w.heap.size 83 #[.bool false, .string ByteArray.empty, .string ByteArray.empty] := (HB2.out.far (p := ⟨w.heap.size + 1, 1, none⟩) (by simp) (.string N)).keep hb2 (by simp; omega); have hbw2 : Below w.heap.size w w2 := (hbw.setCell (p := ⟨w.heap.size + 1, 1, none⟩) (by simp) (.string N)).trans (hb2.mono (by simp; omega)); have hz2 : w.heap.size + 1 < w2.heap.size := B4.lt; clear c0 c1 c2 d0 d1 d2 e0 e1 e2 f0 f1 f2 hb2 hz HB4 HB2 hbw; have c0 := B4.cell 0; have c1 := B4.cell 1; have c2 := B4.cell 2; have f0 := B4.frozen 0; have f1 := B4.frozen 1; have f2 := B4.frozen 2; have d0 := B2.cell 0; have d1 := B2.cell 1; have d2 := B2.cell 2; have e0 := B2.frozen 0; have e1 := B2.frozen 1; have e2 := B2.frozen 2
   clear B4 B2; simp at c0 c1 c2 d0 d1 d2
   have fin : ∀ (ok : Bool) (w' : World), (ok = true ↔ t.dropWhile isD = [] ∧ t.takeWhile isD ≠ [] ∧ (t.takeWhile isD).head? ≠ some 48 ∧ t.takeWhile isD ≠ [49]) → Below w.heap.size w w' →
       RetSplit2 s.data.toList w (.returned (.tuple #[.agg #[.bool b, .string N, .string D], .bool ok])) w' := by
     intro ok w' hok hb; refine split_fin2 (.inr (by rw [Hct.out]; rfl)) Hc.out HN.out HDD.out (spl_den Hc.out ?_ ?_ Hct.out hok) hb
     ·rw [← bs_toList (r.takeWhile isD), HN.out]; simpa using T1.out
     ·rintro (h | h)
      ·exact t3 (by rw [← HN.out, bs_toList]; exact h)
      ·exact of_not_head HN.out (c := 48) T2.out.2 h
   have FIN := zh fin; clear fin
   have hRl : R2.toList = t.dropWhile isD := by rw [← HR2.out, bs_toList]
   have hDl : D.toList = t.takeWhile isD := by rw [← HDD.out, bs_toList]
   have HRl := zh hRl; have HDl := zh hDl; clear hRl hDl; go_wp2
   by_cases r2 : R2.toList.isEmpty = true
   ·have r2' : R2.toList = [] := List.isEmpty_iff.1 r2
    by_cases r3 : D.toList.isEmpty = true
    ·have r3' : D.toList = [] := List.isEmpty_iff.1 r3
     go_region
     all_goals
       try go_wp2
       refine bodyPost_ret (v := .tuple #[.agg #[.bool b, .string N, .string D], .bool false]) (by simp [results, Tryz.results37, go_sem, d0, d1, d2]) rfl (FIN.out _ _ ?_ ?_)
       ·rw [← HRl.out, ← HDl.out, r3']; simp
       ·exact below_drewN ((((hbw2.setCell (by simp) _).setCell (by simp) _).setCell (by simp) _).setCell (by simp) _) 1
    ·have r3 : D.toList.isEmpty = false := eq_false_of_ne_true r3
     have r3' : ¬ D.toList = [] := fun e => by rw [e] at r3; cases r3
     have r4 : 0 < D.size := by
      rw [← HDD.out]; exact bs_pos (fun e => r3' (by rw [HDl.out]; exact e))
     by_cases r5 : ((D[0].toNat : Int) != 48) = true
     ·have r5' : (t.takeWhile isD).head? ≠ some 48 := of_not_head HDD.out (c := 48) (h := r4) (by simpa using r5); have R5 := zh r5'; clear r5'
      by_cases r6 : (D.toList != [49]) = true
      ·skip
       go_region
       all_goals
         try go_wp2
         refine bodyPost_ret (v := .tuple #[.agg #[.bool b, .string N, .string D], .bool true]) (by simp [results, Tryz.results37, go_sem, d0, d1, d2]; simpa using r6) rfl (FIN.out _ _ ?_ ?_)
         ·rw [← HRl.out, ← HDl.out]; exact iff_of_true rfl ⟨r2', r3', by rw [HDl.out]; exact R5.out, by simpa using r6⟩
         ·exact below_drewN ((((hbw2.setCell (by simp) _).setCell (by simp) _).setCell (by simp) _).setCell (by simp) _) 1
      ·have r6 : (D.toList != [49]) = false := eq_false_of_ne_true r6
       go_region
       all_goals
         try go_wp2
         refine bodyPost_ret (v := .tuple #[.agg #[.bool b, .string N, .string D], .bool false]) (by simp [results, Tryz.results37, go_sem, d0, d1, d2]; simpa using r6) rfl (FIN.out _ _ ?_ ?_)
         ·rw [← HRl.out, ← HDl.out]; exact iff_of_false (by decide) (fun h => h.2.2.2 (by simpa using r6))
         ·exact below_drewN ((((hbw2.setCell (by simp) _).setCell (by simp) _).setCell (by simp) _).setCell (by simp) _) 1
     ·have r5 : ((D[0].toNat : Int) != 48) = false := eq_false_of_ne_true r5; have r5' : (t.takeWhile isD).head? = some 48 := of_head HDD.out (c := 48) (h := r4) (by simpa using r5); have R5 := zh r5'; clear r5'
      go_region
      all_goals
        try go_wp2
        refine bodyPost_ret (v := .tuple #[.agg #[.bool b, .string N, .string D], .bool false]) (by simp [results, Tryz.results37, go_sem, d0, d1, d2]) rfl (FIN.out _ _ ?_ ?_)
        ·rw [← HRl.out, ← HDl.out]; exact iff_of_false (by decide) (fun h => h.2.2.1 (by rw [HDl.out]; exact R5.out))
        ·exact below_drewN ((((hbw2.setCell (by simp) _).setCell (by simp) _).setCell (by simp) _).setCell (by simp) _) 1
   ·have r2 : R2.toList.isEmpty = false := eq_false_of_ne_true r2
    have r2' : ¬ R2.toList = [] := fun e => by rw [e] at r2; cases r2
    go_region
    all_goals
      try go_wp2
      refine bodyPost_ret (v := .tuple #[.agg #[.bool b, .string N, .string D], .bool false]) (by simp [results, Tryz.results37, go_sem, d0, d1, d2]) rfl (FIN.out _ _ ?_ ?_)
      ·rw [← HRl.out]; simp [r2']
      ·exact below_drewN ((((hbw2.setCell (by simp) _).setCell (by simp) _).setCell (by simp) _).setCell (by simp) _) 1
  ·have t5 : R.toList.isEmpty = false := by assumption
   have t6 : ¬ 0 < R.size := by assumption
   have hR : r.dropWhile isD = R.toList := by rw [← HR.out, bs_toList]
   have : R.size = (r.dropWhile isD).length := by rw [← HR.out, bs_size]
   have h0 : r.dropWhile isD = [] := List.eq_nil_of_length_eq_zero (by omega); rw [← hR, h0] at t5; cases t5
  ·have t5 : ¬ N.toList = [] := by assumption
   have t6 : ¬ 0 < N.size := by assumption
   have hR : r.takeWhile isD = N.toList := by rw [← HN.out, bs_toList]
   have : N.size = (r.takeWhile isD).length := by rw [← HN.out, bs_size]
   have h0 : r.takeWhile isD = [] := List.eq_nil_of_length_eq_zero (by omega); exact absurd (hR.symm.trans h0) t5
theorem split_any (s : ByteArray) (w : World) (hs : s.size ≤ 64) :
    Calls Tryz.prog 37 #[.string s] w (RetSplit s.data.toList w) :=
  (split_moreL s w (by omega)).mono fun _ _ ⟨b, num, den, ok, e, h, hb⟩ => ⟨b, num, den, ok, e, h.1, hb⟩
def wds (m : Nat) : List Nat := if m = 0 then [] else [m]
theorem conv_bytes (w : World) (s : ByteArray) : ∃ c w1, (convert 9 91 (.string s)).run Tryz.prog w = .ok (.slice (some ⟨w.heap.size, 0, none⟩) s.size c) w1 ∧
    (∀ k (hk : k < s.size), w1.cell? ⟨w.heap.size, k, none⟩ = some (.int .u8 (s[k].toNat : Int))) ∧ Below w.heap.size w w1 := by
  refine ⟨_, _, run_bytes_of_string w _ _ 5 s Tryz.underlying9 Tryz.underlying91 Tryz.underlying5, fun k hk => ?_, ?_⟩
  ·have := World.cell?_alloc_mark w.drew (bytesRow s (grownCap w s.size 0 5)) 5 ((bytesRow s (grownCap w s.size 0 5)).size, (bytesRow s (grownCap w s.size 0 5)).size + 1) k; refine Eq.trans this ?_; exact bytesRow_at s _ k hk
  ·exact (Below.drew brf).alloc (Nat.le_refl _) _
theorem val_take (l : List UInt8) (k : Nat) (hk : k < l.length) : val (l.take (k + 1)) = 10 * val (l.take k) + (l[k].toNat - 48) := by
 rw [List.take_succ_eq_append_getElem hk, val_snoc]
theorem pow_19 {k : Nat} (h : k ≤ 19) : 10 ^ k ≤ 10000000000000000000 := by
 have : 10 ^ k ≤ 10 ^ 19 := Nat.pow_le_pow_right (by omega) h
 exact Nat.le_trans this (by decide)
end
end Go.Proofs.Tg
namespace Go.Ev
section
open Go.Lib
theorem lead_form {x c m : Nat} (h : x = 2 ^ c * (2 * m + 1)) : Lead x c := by
 subst h
 constructor
 ·rw [Nat.testBit_eq_decide_div_mod_eq, Nat.mul_div_cancel_left _ (Nat.two_pow_pos c)]
  simp
 ·intro b hb
  rw [Nat.testBit_eq_decide_div_mod_eq, decide_eq_false_iff_not]; obtain ⟨d, rfl⟩ : ∃ d, c = b + 1 + d := ⟨c - b - 1, by omega⟩; rw [show (2 : Nat) ^ (b + 1 + d) * (2 * m + 1) = 2 ^ b * (2 * (2 ^ d * (2 * m + 1))) by rw [Nat.pow_add, Nat.pow_succ]; simp only [Nat.mul_assoc], Nat.mul_div_cancel_left _ (Nat.two_pow_pos b)]; omega
theorem lead_or {x y i j : Nat} (hx : Lead x i) (hy : Lead y j) : Lead (x ||| y) (min i j) := by
 constructor
 ·rw [Nat.testBit_or]
  rcases Nat.le_total i j with h | h
  ·rw [Nat.min_eq_left h, hx.1]; rfl
  ·rw [Nat.min_eq_right h, hy.1]; simp
 ·intro b hb
  rw [Nat.testBit_or, hx.2 b (by omega), hy.2 b (by omega)]; rfl
theorem ctz_spec {x : Nat} (h0 : x ≠ 0) (hx : x < 18446744073709551616) : ∃ m, x = 2 ^ ctz 64 x * (2 * m + 1) ∧ ctz 64 x < 64 := by
 obtain ⟨m, hm, hk⟩ := ctzFrom_spec 64 x (by omega) (by omega)
 have : ctz 64 x = ctzFrom 64 x := by unfold ctz; rw [if_neg h0]
 rw [this]
 exact ⟨m, hm, hk⟩
theorem odd_coprime_pow {a : Nat} (h : a % 2 = 1) (k : Nat) : Nat.gcd a (2 ^ k) = 1 := by
 have h2 : Nat.gcd a 2 = 1 := by
  rw [Nat.gcd_comm, Nat.gcd_rec, h]; rfl
 exact Nat.Coprime.pow_right k h2
theorem gcd_shift {a b k : Nat} (h : a % 2 = 1) : Nat.gcd a (2 ^ k * b) = Nat.gcd a b :=
  Nat.Coprime.gcd_mul_left_cancel_right b (Nat.Coprime.symm (odd_coprime_pow h k))
def odd (x : Nat) : Nat := x / 2 ^ ctz 64 x
theorem odd_spec {x : Nat} (h0 : x ≠ 0) (hx : x < 18446744073709551616) : odd x % 2 = 1 ∧ x = 2 ^ ctz 64 x * odd x ∧ 0 < odd x ∧ odd x ≤ x ∧ ctz 64 x < 64 := by
 obtain ⟨m, hm, hk⟩ := ctz_spec h0 hx
 have e : odd x = 2 * m + 1 := by
  unfold odd; generalize ctz 64 x = c at *; rw [hm, Nat.mul_div_cancel_left _ (Nat.two_pow_pos c)]
 refine ⟨by rw [e]; omega, by rw [e]; exact hm, by rw [e]; omega, Nat.div_le_self _ _, hk⟩
theorem gcd_two {x y : Nat} (hx0 : x ≠ 0) (hy0 : y ≠ 0) (hx : x < 18446744073709551616) (hy : y < 18446744073709551616) :
    Nat.gcd x y = Nat.gcd (odd x) y * 2 ^ ctz 64 (x ||| y) ∧ ctz 64 (x ||| y) < 64 := by
  obtain ⟨a1, a2, a3, _, _⟩ := odd_spec hx0 hx; obtain ⟨b1, b2, b3, _, _⟩ := odd_spec hy0 hy; have hxy : x ||| y < 18446744073709551616 := Nat.or_lt_two_pow (n := 64) hx hy
  have hxy0 : x ||| y ≠ 0 := fun e => hx0 (Nat.le_zero.1 (e ▸ Nat.left_le_or))
  obtain ⟨m, hm, hk⟩ := ctz_spec hxy0 hxy; refine ⟨?_, hk⟩
  have l1 : Lead x (ctz 64 x) := by obtain ⟨m, hm, _⟩ := ctz_spec hx0 hx; exact lead_form hm
  have l2 : Lead y (ctz 64 y) := by obtain ⟨m, hm, _⟩ := ctz_spec hy0 hy; exact lead_form hm
  have e := (lead_form hm).inj (lead_or l1 l2); rw [e]; generalize odd x = p at *; generalize odd y = q at *; generalize ctz 64 x = i at *; generalize ctz 64 y = j at *; subst a2 b2; rw [gcd_shift a1]
  rcases Nat.le_total i j with h | h
  ·obtain ⟨d, rfl⟩ : ∃ d, j = i + d := ⟨j - i, by omega⟩; rw [Nat.min_eq_left h, Nat.pow_add, Nat.mul_assoc, Nat.gcd_mul_left, gcd_shift a1, Nat.mul_comm]
  ·obtain ⟨d, rfl⟩ : ∃ d, i = j + d := ⟨i - j, by omega⟩; rw [Nat.min_eq_right h, Nat.pow_add, Nat.mul_assoc, Nat.gcd_mul_left, Nat.gcd_comm _ q, gcd_shift b1, Nat.mul_comm, Nat.gcd_comm]
theorem gcd_odd {a y : Nat} (ha : a % 2 = 1) (hy0 : y ≠ 0) (hy : y < 18446744073709551616) : Nat.gcd a y = Nat.gcd a (odd y) := by
 obtain ⟨_, b2, _⟩ := odd_spec hy0 hy
 have : Nat.gcd a y = Nat.gcd a (2 ^ ctz 64 y * odd y) := by rw [← b2]
 rw [this, gcd_shift ha]
theorem gcd_sub {a b : Nat} (h : a ≤ b) : Nat.gcd a (b - a) = Nat.gcd a b := by
 have := Nat.gcd_add_self_right (m := a) (n := b - a)
 rw [Nat.sub_add_cancel h] at this
 exact this.symm
end
end Go.Ev
namespace Go.Proofs.Tg
section
open Go.RowKit Go.Qn Go.Gr
theorem shr_nat (x k : Nat) : (x : Int) / 2 ^ k = ((x / 2 ^ k : Nat) : Int) := by simp
theorem gword_any (x y : Nat) (w : World) (hx : x < 18446744073709551616) (hy : y < 18446744073709551616) (hx0 : x ≠ 0) (hT : Tab w) :
    Calls Tryz.prog 90 #[.int .u64 x, .int .u64 y] w fun e w' => e = .returned (.int .u64 (Nat.gcd x y : Nat)) ∧ w = w' := by
  have hxb : ((x : Int) == 0) = false := by simp; omega
  by_cases hy0 : y = 0
  ·subst hy0
   have hyb : (((0 : Nat) : Int) == 0) = true := by decide
   go_enter Tryz.func90, Tryz.ntmps90; go_wp2; go_ret; refine ⟨?_, rfl⟩; have e := u64_or_nat x 0 hx (by omega); rw [Nat.or_zero] at e; rw [Nat.gcd_zero_right]; exact congrArg (fun z => Ending.returned (.int .u64 z)) e
  ·have hyb : ((y : Int) == 0) = false := by simp; omega
   have hor : x ||| y < 18446744073709551616 := Nat.or_lt_two_pow (n := 64) hx hy
   have hor0 : x ||| y ≠ 0 := fun e => hx0 (Nat.le_zero.1 (e ▸ Nat.left_le_or))
   obtain ⟨G, hk⟩ := Ev.gcd_two hx0 hy0 hx hy; obtain ⟨o1, o2, o3, o4, o5⟩ := Ev.odd_spec hx0 hx
   have T1 : Hid (Calls Tryz.prog 114 #[.int .u64 (bits BinOp.or IntKind.u64 (x : Int) (y : Int))] w fun e w' => e = .returned (.int .i64 (Lib.ctz 64 (x ||| y) : Nat)) ∧ w = w') := zh (by
    rw [u64_or_nat x y hx hy]; exact tz_any _ w hor hor0 hT)
   have T2 := zh (tz_any x w hx hx0 hT); have hX : Hid ((x : Int) / 2 ^ Lib.ctz 64 x = (Ev.odd x : Nat)) := zh (by rw [shr_nat]; rfl); have hG : Hid (Nat.gcd x y = Nat.gcd (Ev.odd x) y * 2 ^ Lib.ctz 64 (x ||| y)) := zh G; have HO1 := zh o1; generalize Ev.odd x = x1 at *; generalize Lib.ctz 64 x = c1 at *; generalize Lib.ctz 64 (x ||| y) = c2 at *; clear G o1 o2 hor0; go_enter Tryz.func90, Tryz.ntmps90
   go_wp2_with (first
     | (go_at_call 114; (with_reducible refine T1.out.mono ?_); rintro e w' ⟨rfl, rfl⟩)
     | (go_at_call 114; (with_reducible refine T2.out.mono ?_); rintro e w' ⟨rfl, rfl⟩))
   have hgl : Nat.gcd x y ≤ x := Nat.gcd_le_left y (by omega)
   go_loop [0, 1] (fun a b => ∃ X Y : Nat, a = .int .u64 X ∧ b = .int .u64 Y ∧ X < 18446744073709551616 ∧ Y < 18446744073709551616 ∧ 0 < X ∧ Hid (X % 2 = 1 ∧ Nat.gcd X Y = Nat.gcd x1 y)) (fun a b => (intOf a).toNat + (intOf b).toNat)
   case atStart => exact ⟨x1, y, by rw [hX.out], rfl, by omega, hy, o3, zh ⟨HO1.out, rfl⟩⟩
   case round =>
    obtain ⟨X, Y, rfl, rfl, hX1, hY1, hX0, HG⟩ := hrel
    by_cases hY0 : Y = 0
    ·subst hY0
     have hb : (((0 : Nat) : Int) != 0) = false := by decide
     have e : X = Nat.gcd x1 y := by rw [← HG.out.2, Nat.gcd_zero_right]
     have hm : X * 2 ^ c2 = Nat.gcd x y := by rw [hG.out, e]
     have HM := zh hm; clear e hm; go_wp2; go_ret; refine ⟨?_, rfl⟩
     show Ending.returned (.int .u64 (IntKind.u64.wrap ((X : Int) * 2 ^ c2))) = _
     have e2 : (X : Int) * 2 ^ c2 = ((X * 2 ^ c2 : Nat) : Int) := by simp
     rw [e2, HM.out, wrap_nat _ (by omega)]
    ·have hb : ((Y : Int) != 0) = true := by simp; omega
     obtain ⟨q1, q2, q3, q4, q5⟩ := Ev.odd_spec hY0 hY1; have T3 := zh (tz_any Y w hY1 hY0 hT); have hG2 := Ev.gcd_odd HG.out.1 hY0 hY1
     have hE : (Y : Int) / 2 ^ Lib.ctz 64 Y = (Ev.odd Y : Nat) := by rw [shr_nat]; rfl
     have HQ1 := zh q1; have HG2 := zh hG2; generalize Ev.odd Y = Y1 at *; generalize Lib.ctz 64 Y = c3 at *; clear q1 q2 hG2
     by_cases hlt : Y1 < X
     ·go_wp2_with (go_at_call 114; (with_reducible refine T3.out.mono ?_); rintro e w' ⟨rfl, rfl⟩)
      go_round
      case rel =>
       have h1 := HG.out; refine ⟨Y1, X - Y1, rfl, by go_num, by omega, by omega, q3, zh ⟨HQ1.out, ?_⟩⟩; rw [Ev.gcd_sub (by omega), Nat.gcd_comm, ← HG2.out, h1.2]
      case measure => simp [intOf]; omega
     ·go_wp2_with (go_at_call 114; (with_reducible refine T3.out.mono ?_); rintro e w' ⟨rfl, rfl⟩)
      go_round
      case rel =>
       have h1 := HG.out; refine ⟨X, Y1 - X, rfl, by go_num, by omega, by omega, hX0, zh ⟨h1.1, ?_⟩⟩; rw [Ev.gcd_sub (by omega), ← HG2.out, h1.2]
      case measure => simp [intOf]; omega
theorem fword_any (m : Nat) (w : World) (hm : m < 18446744073709551616) :
    Calls Tryz.prog 89 #[.int .u64 m] w (RetSl (wds m).length 1 ((wds m).map vs) w) := by
  by_cases h0 : m = 0
  ·subst h0
   have hb : (((0 : Nat) : Int) == 0) = true := by decide
   go_enter Tryz.func89, Tryz.ntmps89; go_wp2; go_ret; exact ⟨none, 0, rfl, Nat.le_refl _, Sl.nil _ _ _, Below.refl _ _⟩
  ·have hb : ((m : Int) == 0) = false := by simp; omega
   have hw : Hid (wds m = [m]) := zh (by unfold wds; rw [if_neg h0]); clear h0; go_enter Tryz.func89, Tryz.ntmps89; go_wp2; go_ret; rw [hw.out]; refine ⟨some ⟨w.heap.size, 0, none⟩, 1, rfl, Nat.le_refl _, ⟨rfl, fun _ => ⟨_, rfl, by simp, ?_⟩⟩, bal⟩; intro j u hu; rw [add_lit, Nat.zero_add, (Blk.new w 118 #[.int .u64 m]).cell j]; simpa [vs] using hu
theorem nan64 (x : Nat) (w : World) : Calls Tryz.prog 125 #[.int .u64 x] w fun e w' => e = .returned (.bool false) ∧ w = w' := by
 go_enter Tryz.func125, Tryz.ntmps125
 go_wp2
 go_ret
 exact ⟨by simp, rfl⟩
def cmpN (a b : Nat) : Int := if a < b then -1 else if b < a then 1 else 0
theorem cmp64 (x y : Nat) (w : World) : Calls Tryz.prog 103 #[.int .u64 x, .int .u64 y] w fun e w' => e = .returned (.int .i64 (cmpN x y)) ∧ w = w' := by
 have go : ∀ z : Int, cmpN x y = z → Calls Tryz.prog 103 #[.int .u64 x, .int .u64 y] w fun e w' => e = .returned (.int .i64 z) ∧ w = w' := by
  intro z hz; unfold cmpN at hz
  by_cases h1 : x < y
  ·rw [if_pos h1] at hz; subst hz; go_enter Tryz.func103, Tryz.ntmps103
   go_wp2_with (go_at_call 125; refine (nan64 _ _).mono ?_; rintro e w' ⟨rfl, rfl⟩)
   go_ret; exact ⟨rfl, rfl⟩
  ·rw [if_neg h1] at hz
   by_cases h2 : y < x
   ·rw [if_pos h2] at hz; subst hz; go_enter Tryz.func103, Tryz.ntmps103
    go_wp2_with (go_at_call 125; refine (nan64 _ _).mono ?_; rintro e w' ⟨rfl, rfl⟩)
    go_ret; exact ⟨rfl, rfl⟩
   ·rw [if_neg h2] at hz; subst hz; go_enter Tryz.func103, Tryz.ntmps103
    go_wp2_with (go_at_call 125; refine (nan64 _ _).mono ?_; rintro e w' ⟨rfl, rfl⟩)
    go_ret; exact ⟨rfl, rfl⟩
 exact go _ rfl
theorem Sets.one {w : World} {A : Option Addr} {a : Nat} (h : Sets w A [a]) : ∃ ad, A = some ad ∧ w.cell? ad = some (.int .u64 (a : Nat)) ∧ ad.block < w.heap.size := by
 obtain ⟨ad, rfl, hc⟩ := Sets.at h (k := 0) (by simp)
 have hc0 : w.cell? ad = some (.int .u64 (a : Nat)) := by simpa [Addr.add] using hc
 exact ⟨ad, rfl, hc0, World.block_lt_of_cell? w ad hc0⟩
theorem wds_pos {m : Nat} (h : m ≠ 0) : wds m = [m] := by unfold wds; rw [if_neg h]
theorem isone_any (A : Option Addr) (c m : Nat) (w : World) (hA : Sets w A (wds m)) :
    Calls Tryz.prog 40 #[.agg #[.bool false, .slice A (wds m).length c]] w fun e w' => e = .returned (.bool (decide (m = 1))) ∧ Below w.heap.size w w' := by
  by_cases h0 : m = 0
  ·subst h0; have e : wds 0 = [] := rfl; rw [e]; go_enter Tryz.func40, Tryz.ntmps40; go_wp2; go_ret; exact ⟨by simp, bal⟩
  ·rw [wds_pos h0] at hA ⊢; obtain ⟨ad, rfl, k, hl⟩ := hA.one; have k' := cell_alloc k (.cells #[.bool false, .slice (some ad) 1 c] 68); go_enter Tryz.func40, Tryz.ntmps40; go_wp2; go_ret; refine ⟨?_, bal⟩
   show Ending.returned (.bool ((m : Int) == 1)) = _
   congr 2
   by_cases h1 : m = 1
   ·subst h1; rfl
   ·rw [dF h1]; simp; omega
theorem iszero_any (x : Bool) (A : Option Addr) (n c : Nat) (w : World) :
    Calls Tryz.prog 45 #[.agg #[.bool x, .slice A n c]] w fun e w' => e = .returned (.bool (decide (n = 0))) ∧ Below w.heap.size w w' := by
  go_enter Tryz.func45, Tryz.ntmps45; go_wp2; go_ret; refine ⟨?_, bal⟩
  show Ending.returned (.bool ((n : Int) == 0)) = _
  congr 2
  by_cases h1 : n = 0
  ·subst h1; rfl
  ·rw [dF h1]; simp; omega
end
end Go.Proofs.Tg
