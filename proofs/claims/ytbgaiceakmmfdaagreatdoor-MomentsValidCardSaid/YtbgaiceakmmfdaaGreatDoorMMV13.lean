/- Parts of the proof: WS3, WN2, FI4, FI5. -/
import Derived.Deep.RegionHeld3
import Derived.Test.YtbgaiceakmmfdaaGreatDoorMMV1
import Derived.Test.YtbgaiceakmmfdaaGreatDoorMMV3
import Derived.Test.YtbgaiceakmmfdaaGreatDoorMMV12
section
/- Walks: the parts of a number's text, once more, with what stands in each part. -/
namespace Go.Proofs.Tg
open Go.RowKit Go.Qn
set_option maxHeartbeats 1000000
set_option maxRecDepth 100000
def RetSplit2 (l : List UInt8) (w : World) (e : Ending) (w' : World) : Prop :=
  ∃ b num den ok, e = .returned (.tuple #[.agg #[.bool b, .string (bs num), .string (bs den)], .bool ok]) ∧ (SplitIs l b num den ok ∧ b = (cut l).1 ∧ num = (cut l).2.takeWhile isD ∧ (den = [] ∨ den = ((cut l).2.dropWhile isD).tail.takeWhile isD)) ∧ Below w.heap.size w w'
theorem split_fin2 {l den r : List UInt8} {b ok : Bool} {N D : ByteArray} {w w' : World} (hden : den = [] ∨ den = (r.dropWhile isD).tail.takeWhile isD) (hc : cut l = (b, r)) (hN : bs (r.takeWhile isD) = N) (hD : bs den = D) (h : SplitIs l b (r.takeWhile isD) den ok) (hb : Below w.heap.size w w') :
    RetSplit2 l w (.returned (.tuple #[.agg #[.bool b, .string N, .string D], .bool ok])) w' := by
  subst hN hD
  exact ⟨b, _, den, ok, rfl, ⟨h, by rw [hc], by rw [hc], by rw [hc]; exact hden⟩, hb⟩
set_option maxHeartbeats 4000000 in
theorem split_more (s : ByteArray) (w : World) (hs : s.size ≤ 64) :
    Calls Tryz.prog 37 #[.string s] w (RetSplit2 s.data.toList w) := by
  obtain ⟨b, r, hc⟩ : ∃ b r, cut s.data.toList = (b, r) := ⟨_, _, rfl⟩
  have HC : Hid (∀ W, Calls Tryz.prog 65 #[.string s, .string ⟨#[45]⟩] W fun e w' => e = .returned (.tuple #[.string (bs r), .bool b]) ∧ W = w') := Lib.hid (fun W => by
   have := cutp_any s W hs
   rwa [hc] at this)
  have hrl : r.length ≤ 64 := by
   have := (spl_len hc).2
   rw [len_size] at this; omega
  obtain ⟨N, hN⟩ : ∃ N, bs (r.takeWhile isD) = N := ⟨_, rfl⟩
  obtain ⟨R, hR⟩ : ∃ R, bs (r.dropWhile isD) = R := ⟨_, rfl⟩
  have HD : Hid (∀ W, Calls Tryz.prog 66 #[.string (bs r)] W fun e w' => e = .returned (.tuple #[.string N, .string R]) ∧ Below W.heap.size W w') := Lib.hid (fun W => by
   have := digits_any (bs r) W (by rw [bs_size]; exact hrl)
   rwa [bs_data, hN, hR] at this)
  have HN := Lib.hid hN
  have HR := Lib.hid hR
  have Hc := Lib.hid hc
  clear hN hR hc
  go_enter Tryz.func37, Tryz.ntmps37
  go_wp2_with (go_at_call 65; refine (HC.out _).mono ?_; rintro e w' ⟨rfl, rfl⟩)
  with_reducible refine (HD.out _).mono ?_
  rintro e w1 ⟨rfl, hb1⟩
  have B4 : Blk w1 (w.heap.size + 1) 83 #[.bool b, .string ByteArray.empty, .string ByteArray.empty] := by
   have := (Blk.new (w.alloc (.cells #[.bool false, .string ByteArray.empty, .string ByteArray.empty] 83)) 83 #[.bool b, .string ByteArray.empty, .string ByteArray.empty]).keep hb1 (by simp)
   simpa using this
  have B2 : Blk w1 w.heap.size 83 #[.bool false, .string ByteArray.empty, .string ByteArray.empty] :=
    ((Blk.new w 83 #[.bool false, .string ByteArray.empty, .string ByteArray.empty]).alloc _).keep hb1 (by simp; omega)
  have hbw : Below w.heap.size w w1 := (((Below.refl _ _).alloc (Nat.le_refl _) _).alloc (by simp) _).trans (hb1.mono (by simp; omega))
  have hz : w.heap.size + 1 < w1.heap.size := B4.lt
  have HB4 := Lib.hid B4
  have HB2 := Lib.hid B2
  have c0 := B4.cell 0
  have c1 := B4.cell 1
  have c2 := B4.cell 2
  have f0 := B4.frozen 0
  have f1 := B4.frozen 1
  have f2 := B4.frozen 2
  have d0 := B2.cell 0
  have d1 := B2.cell 1
  have d2 := B2.cell 2
  have e0 := B2.frozen 0
  have e1 := B2.frozen 1
  have e2 := B2.frozen 2
  clear hb1 B4 B2
  simp at c0 c1 c2 d0 d1 d2
  go_wp2_with (fail)
  ·have t1 : (N.toList == [48]) = true := by assumption
   have t2 : b = true := by assumption
   subst t2
   refine bodyPost_ret (v := .tuple #[.agg #[.bool true, .string N, .string ByteArray.empty], .bool false]) (by simp [results, Tryz.results37, go_sem, d0, d1, d2]) rfl (split_fin2 (.inl rfl) Hc.out HN.out bs_nil (spl_zero Hc.out ?_) ?_)
   ·rw [← bs_toList (r.takeWhile isD), HN.out]; simpa using t1
   ·exact (((hbw.setCell (by simp) _).setCell (by simp) _).setCell (by simp) _).setCell (by simp) _
  ·have t1 : (N.toList == [48]) = true := by assumption
   have t2 : ¬ b = true := by assumption
   obtain rfl : b = false := eq_false_of_ne_true t2
   refine bodyPost_ret (v := .tuple #[.agg #[.bool false, .string N, .string ByteArray.empty], .bool R.toList.isEmpty]) (by simp [results, Tryz.results37, go_sem, d0, d1, d2]) rfl (split_fin2 (.inl rfl) Hc.out HN.out bs_nil ?_ ?_)
   ·have := spl_zero Hc.out (by rw [← bs_toList (r.takeWhile isD), HN.out]; simpa using t1)
    rw [← HR.out, bs_toList]
    simpa using this
   ·exact (((hbw.setCell (by simp) _).setCell (by simp) _).setCell (by simp) _).setCell (by simp) _
  ·have t1 : (N.toList == [48]) = false := by assumption
   have t2 : N.toList = [] := by assumption
   refine bodyPost_ret (v := .tuple #[.agg #[.bool b, .string N, .string ByteArray.empty], .bool false]) (by simp [results, Tryz.results37, go_sem, d0, d1, d2]) rfl (split_fin2 (.inl rfl) Hc.out HN.out bs_nil (spl_bad Hc.out ?_ (.inl ?_)) ?_)
   ·rw [← bs_toList (r.takeWhile isD), HN.out]; simpa using t1
   ·rw [← bs_toList (r.takeWhile isD), HN.out]; exact t2
   ·exact (((hbw.setCell (by simp) _).setCell (by simp) _).setCell (by simp) _).setCell (by simp) _
  ·have t1 : (N.toList == [48]) = false := by assumption
   have t3 : ¬ N.toList = [] := by assumption
   have t4 : 0 < N.size := by assumption
   have t2 : N.toList.isEmpty = true ∨ ((N[0].toNat : Int) == 48) = true := by assumption
   refine bodyPost_ret (v := .tuple #[.agg #[.bool b, .string N, .string ByteArray.empty], .bool false]) (by simp [results, Tryz.results37, go_sem, d0, d1, d2]) rfl (split_fin2 (.inl rfl) Hc.out HN.out bs_nil (spl_bad Hc.out ?_ (.inr ?_)) ?_)
   ·rw [← bs_toList (r.takeWhile isD), HN.out]; simpa using t1
   ·rcases t2 with t2 | t2
    ·exact absurd (List.isEmpty_iff.1 t2) t3
    ·exact of_head HN.out (c := 48) t2
   ·exact (((hbw.setCell (by simp) _).setCell (by simp) _).setCell (by simp) _).setCell (by simp) _
  ·have t1 : (N.toList == [48]) = false := by assumption
   have t3 : ¬ N.toList = [] := by assumption
   have t4 : 0 < N.size := by assumption
   have t2 : N.toList.isEmpty = false ∧ ((N[0].toNat : Int) == 48) = false := by assumption
   have t5 : R.toList.isEmpty = true := by assumption
   refine bodyPost_ret (v := .tuple #[.agg #[.bool b, .string N, .string ByteArray.empty], .bool true]) (by simp [results, Tryz.results37, go_sem, d0, d1, d2]) rfl (split_fin2 (.inl rfl) Hc.out HN.out bs_nil (spl_whole Hc.out ?_ ?_ ?_) ?_)
   ·rw [← bs_toList (r.takeWhile isD), HN.out]; simpa using t1
   ·rintro (h | h)
    ·exact t3 (by rw [← HN.out, bs_toList]; exact h)
    ·exact of_not_head HN.out (c := 48) t2.2 h
   ·rw [← bs_toList (r.dropWhile isD), HR.out]; exact List.isEmpty_iff.1 t5
   ·exact (((hbw.setCell (by simp) _).setCell (by simp) _).setCell (by simp) _).setCell (by simp) _
  ·have t1 : (N.toList == [48]) = false := by assumption
   have t3 : ¬ N.toList = [] := by assumption
   have t4 : 0 < N.size := by assumption
   have t2 : N.toList.isEmpty = false ∧ ((N[0].toNat : Int) == 48) = false := by assumption
   have t5 : R.toList.isEmpty = false := by assumption
   have t6 : 0 < R.size := by assumption
   have t7 : ((R[0].toNat : Int) != 47) = true := by assumption
   have hR : r.dropWhile isD = R.toList := by rw [← HR.out, bs_toList]
   obtain ⟨c, t, hct⟩ : ∃ c t, r.dropWhile isD = c :: t := by
    cases hh : r.dropWhile isD with
    | nil => rw [hh] at hR; rw [← hR] at t5; cases t5
    | cons c t => exact ⟨c, t, rfl⟩
   refine bodyPost_ret (v := .tuple #[.agg #[.bool b, .string N, .string ByteArray.empty], .bool false]) (by simp [results, Tryz.results37, go_sem, d0, d1, d2]) rfl (split_fin2 (.inl rfl) Hc.out HN.out bs_nil (spl_slash Hc.out ?_ ?_ hct ?_) ?_)
   ·rw [← bs_toList (r.takeWhile isD), HN.out]; simpa using t1
   ·rintro (h | h)
    ·exact t3 (by rw [← HN.out, bs_toList]; exact h)
    ·exact of_not_head HN.out (c := 48) t2.2 h
   ·have := of_not_head HR.out (c := 47) (h := t6) (by simpa using t7)
    rw [hct] at this
    simpa using this
   ·exact (((hbw.setCell (by simp) _).setCell (by simp) _).setCell (by simp) _).setCell (by simp) _
  ·have t1 : (N.toList == [48]) = false := by assumption
   have t3 : ¬ N.toList = [] := by assumption
   have t4 : 0 < N.size := by assumption
   have t2 : N.toList.isEmpty = false ∧ ((N[0].toNat : Int) == 48) = false := by assumption
   have t5 : R.toList.isEmpty = false := by assumption
   have t6 : 0 < R.size := by assumption
   have t7 : ((R[0].toNat : Int) != 47) = false := by assumption
   have hR : r.dropWhile isD = R.toList := by rw [← HR.out, bs_toList]
   obtain ⟨t, hct⟩ : ∃ t, r.dropWhile isD = 47 :: t := by
    have := of_head HR.out (c := 47) (h := t6) (by simpa using t7)
    cases hh : r.dropWhile isD with
    | nil => rw [hh] at this; cases this
    | cons c t => rw [hh] at this; injection this with this; subst this; exact ⟨t, rfl⟩
   have hext : R.extract 1 R.size = bs t := by rw [ext_end, ← HR.out, bs_data, hct]; rfl
   have htl : t.length ≤ 64 := by
    have a2 := dw_len isD r
    rw [hct, List.length_cons] at a2
    omega
   obtain ⟨D, hD⟩ : ∃ D, bs (t.takeWhile isD) = D := ⟨_, rfl⟩
   obtain ⟨R2, hR2⟩ : ∃ R, bs (t.dropWhile isD) = R := ⟨_, rfl⟩
   have HD2 : Hid (∀ W, Calls Tryz.prog 66 #[.string (R.extract 1 R.size)] W fun e w' => e = .returned (.tuple #[.string D, .string R2]) ∧ Below W.heap.size W w') := Lib.hid (fun W => by
    have := digits_any (bs t) W (by rw [bs_size]; exact htl)
    rwa [bs_data, hD, hR2, ← hext] at this)
   have HDD := Lib.hid hD
   have HR2 := Lib.hid hR2
   have Hct := Lib.hid hct
   have T1 := Lib.hid t1
   have T2 := Lib.hid t2
   clear hD hR2 hct hR hext t1 t2 t7
   with_reducible refine (HD2.out _).mono ?_
   rintro e w2 ⟨rfl, hb2⟩
   have B4 : Blk w2 (w.heap.size + 1) 83 #[.bool b, .string N, .string ByteArray.empty] := (HB4.out.set 1 (.string N)).keep hb2 (by simp; omega)
   have B2 : Blk w2 w.heap.size 83 #[.bool false, .string ByteArray.empty, .string ByteArray.empty] := (HB2.out.far (p := ⟨w.heap.size + 1, 1, none⟩) (by simp) (.string N)).keep hb2 (by simp; omega)
   have hbw2 : Below w.heap.size w w2 := (hbw.setCell (p := ⟨w.heap.size + 1, 1, none⟩) (by simp) (.string N)).trans (hb2.mono (by simp; omega))
   have hz2 : w.heap.size + 1 < w2.heap.size := B4.lt
   clear c0 c1 c2 d0 d1 d2 e0 e1 e2 f0 f1 f2 hb2 hz HB4 HB2 hbw
   have c0 := B4.cell 0
   have c1 := B4.cell 1
   have c2 := B4.cell 2
   have f0 := B4.frozen 0
   have f1 := B4.frozen 1
   have f2 := B4.frozen 2
   have d0 := B2.cell 0
   have d1 := B2.cell 1
   have d2 := B2.cell 2
   have e0 := B2.frozen 0
   have e1 := B2.frozen 1
   have e2 := B2.frozen 2
   clear B4 B2
   simp at c0 c1 c2 d0 d1 d2
   have fin : ∀ (ok : Bool) (w' : World), (ok = true ↔ t.dropWhile isD = [] ∧ t.takeWhile isD ≠ [] ∧ (t.takeWhile isD).head? ≠ some 48 ∧ t.takeWhile isD ≠ [49]) → Below w.heap.size w w' →
       RetSplit2 s.data.toList w (.returned (.tuple #[.agg #[.bool b, .string N, .string D], .bool ok])) w' := by
     intro ok w' hok hb
     refine split_fin2 (.inr (by rw [Hct.out]; rfl)) Hc.out HN.out HDD.out (spl_den Hc.out ?_ ?_ Hct.out hok) hb
     ·rw [← bs_toList (r.takeWhile isD), HN.out]; simpa using T1.out
     ·rintro (h | h)
      ·exact t3 (by rw [← HN.out, bs_toList]; exact h)
      ·exact of_not_head HN.out (c := 48) T2.out.2 h
   have FIN := Lib.hid fin
   clear fin
   have hRl : R2.toList = t.dropWhile isD := by rw [← HR2.out, bs_toList]
   have hDl : D.toList = t.takeWhile isD := by rw [← HDD.out, bs_toList]
   have HRl := Lib.hid hRl
   have HDl := Lib.hid hDl
   clear hRl hDl
   go_wp2
   by_cases r2 : R2.toList.isEmpty = true
   ·have r2' : R2.toList = [] := List.isEmpty_iff.1 r2
    by_cases r3 : D.toList.isEmpty = true
    ·have r3' : D.toList = [] := List.isEmpty_iff.1 r3
     go_region
     all_goals
       try go_wp2
       refine bodyPost_ret (v := .tuple #[.agg #[.bool b, .string N, .string D], .bool false]) (by simp [results, Tryz.results37, go_sem, d0, d1, d2]) rfl (FIN.out _ _ ?_ ?_)
       ·rw [← HRl.out, ← HDl.out, r3']; simp
       ·exact below_drewN ((((hbw2.setCell (by simp) _).setCell (by simp) _).setCell (by simp) _).setCell (by simp) _) 1
    ·have r3 : D.toList.isEmpty = false := eq_false_of_ne_true r3
     have r3' : ¬ D.toList = [] := fun e => by rw [e] at r3; cases r3
     have r4 : 0 < D.size := by
      rw [← HDD.out]; exact bs_pos (fun e => r3' (by rw [HDl.out]; exact e))
     by_cases r5 : ((D[0].toNat : Int) != 48) = true
     ·have r5' : (t.takeWhile isD).head? ≠ some 48 := of_not_head HDD.out (c := 48) (h := r4) (by simpa using r5)
      have R5 := Lib.hid r5'
      clear r5'
      by_cases r6 : (D.toList != [49]) = true
      ·skip
       go_region
       all_goals
         try go_wp2
         refine bodyPost_ret (v := .tuple #[.agg #[.bool b, .string N, .string D], .bool true]) (by simp [results, Tryz.results37, go_sem, d0, d1, d2]; simpa using r6) rfl (FIN.out _ _ ?_ ?_)
         ·rw [← HRl.out, ← HDl.out]; exact iff_of_true rfl ⟨r2', r3', by rw [HDl.out]; exact R5.out, by simpa using r6⟩
         ·exact below_drewN ((((hbw2.setCell (by simp) _).setCell (by simp) _).setCell (by simp) _).setCell (by simp) _) 1
      ·have r6 : (D.toList != [49]) = false := eq_false_of_ne_true r6
       go_region
       all_goals
         try go_wp2
         refine bodyPost_ret (v := .tuple #[.agg #[.bool b, .string N, .string D], .bool false]) (by simp [results, Tryz.results37, go_sem, d0, d1, d2]; simpa using r6) rfl (FIN.out _ _ ?_ ?_)
         ·rw [← HRl.out, ← HDl.out]; exact iff_of_false (by decide) (fun h => h.2.2.2 (by simpa using r6))
         ·exact below_drewN ((((hbw2.setCell (by simp) _).setCell (by simp) _).setCell (by simp) _).setCell (by simp) _) 1
     ·have r5 : ((D[0].toNat : Int) != 48) = false := eq_false_of_ne_true r5
      have r5' : (t.takeWhile isD).head? = some 48 := of_head HDD.out (c := 48) (h := r4) (by simpa using r5)
      have R5 := Lib.hid r5'
      clear r5'
      go_region
      all_goals
        try go_wp2
        refine bodyPost_ret (v := .tuple #[.agg #[.bool b, .string N, .string D], .bool false]) (by simp [results, Tryz.results37, go_sem, d0, d1, d2]) rfl (FIN.out _ _ ?_ ?_)
        ·rw [← HRl.out, ← HDl.out]; exact iff_of_false (by decide) (fun h => h.2.2.1 (by rw [HDl.out]; exact R5.out))
        ·exact below_drewN ((((hbw2.setCell (by simp) _).setCell (by simp) _).setCell (by simp) _).setCell (by simp) _) 1
   ·have r2 : R2.toList.isEmpty = false := eq_false_of_ne_true r2
    have r2' : ¬ R2.toList = [] := fun e => by rw [e] at r2; cases r2
    go_region
    all_goals
      try go_wp2
      refine bodyPost_ret (v := .tuple #[.agg #[.bool b, .string N, .string D], .bool false]) (by simp [results, Tryz.results37, go_sem, d0, d1, d2]) rfl (FIN.out _ _ ?_ ?_)
      ·rw [← HRl.out]; simp [r2']
      ·exact below_drewN ((((hbw2.setCell (by simp) _).setCell (by simp) _).setCell (by simp) _).setCell (by simp) _) 1
  ·have t5 : R.toList.isEmpty = false := by assumption
   have t6 : ¬ 0 < R.size := by assumption
   have hR : r.dropWhile isD = R.toList := by rw [← HR.out, bs_toList]
   have : R.size = (r.dropWhile isD).length := by rw [← HR.out, bs_size]
   have h0 : r.dropWhile isD = [] := List.eq_nil_of_length_eq_zero (by omega)
   rw [← hR, h0] at t5; cases t5
  ·have t5 : ¬ N.toList = [] := by assumption
   have t6 : ¬ 0 < N.size := by assumption
   have hR : r.takeWhile isD = N.toList := by rw [← HN.out, bs_toList]
   have : N.size = (r.takeWhile isD).length := by rw [← HN.out, bs_size]
   have h0 : r.takeWhile isD = [] := List.eq_nil_of_length_eq_zero (by omega)
   exact absurd (hR.symm.trans h0) t5
/-- The parts of a number's own text. -/
def RetSplit3 (b : Bool) (n d : Nat) (w : World) (e : Ending) (w' : World) : Prop :=
  e = .returned (.tuple #[.agg #[.bool b, .string (bs (Lib.decDigits n)), .string (bs (if d = 1 then [] else Lib.decDigits d))], .bool true]) ∧ Below w.heap.size w w'
theorem split_text (b : Bool) (n d : Nat) (w : World) (hc : Canon b n d) (hs : (text b n d).length ≤ 64) :
    Calls Tryz.prog 37 #[.string (bs (text b n d))] w (RetSplit3 b n d w) := by
  refine (split_more (bs (text b n d)) w (by rw [bs_size]; exact hs)).mono ?_
  rintro e w' ⟨b2, num, den, ok, rfl, ⟨hS, hb2, hnum, hden⟩, hb⟩
  rw [bs_data] at hS hb2 hnum hden
  rw [cut_text] at hb2 hnum hden
  simp only at hb2 hnum hden
  subst hb2
  obtain ⟨e1, e2⟩ := tw_app (p := isD) (Lib.decDigits n) (if d = 1 then [] else 47 :: Lib.decDigits d) (dec_allD n) (tail_form d)
  rw [e1] at hnum
  rw [e2] at hden
  subst hnum
  obtain ⟨_, _, h0, h1⟩ := hS
  have hrd := rd_text hc
  have hok : ok = true := by
   cases ok with
   | true => rfl
   | false => rw [h0 rfl] at hrd; cases hrd
  subst hok
  obtain ⟨_, h2, h3⟩ := h1 rfl
  have hD : den = if d = 1 then [] else Lib.decDigits d := by
   by_cases hd : d = 1
   ·rw [if_pos hd] at hden ⊢
    rcases hden with h | h
    ·exact h
    ·rw [h]; rfl
   ·rw [if_neg hd] at hden ⊢
    rcases hden with h | h
    ·have := h2 h
     rw [hrd] at this
     injection this with this
     injection this with _ this
     injection this with _ this
     exact absurd this hd
    ·rw [h, List.tail_cons]; have := (tw_app (p := isD) (Lib.decDigits d) [] (dec_allD d) (.inl rfl)).1; rwa [List.append_nil] at this
  subst hD
  exact ⟨rfl, hb⟩
end Go.Proofs.Tg
end
section
/- Short numbers of the program: reading. -/
namespace Go.Proofs.Tg
open Go.RowKit Go.Qn
set_option maxHeartbeats 4000000
set_option maxRecDepth 100000
def sg (b : Bool) (n : Nat) : Int := if b = true then -(n : Int) else n
theorem val9 (l : List UInt8) (h : numOk l = true) (hl : l.length ≤ 9) : val l < 1000000000 := by
 have h1 := val_lt l (numOk_iff.1 h).1
 have h2 : 10 ^ l.length ≤ 10 ^ 9 := Nat.pow_le_pow_right (by omega) hl
 exact Nat.lt_of_lt_of_le h1 (Nat.le_trans h2 (by decide))
end Go.Proofs.Tg
end
section
/- The program's numbers with short parts: reading a canonical text. -/
namespace Go.Proofs.Tg.Fi
open Go.RowKit Go.Rq Go.Qn Go.Proofs.Tg
set_option maxHeartbeats 6400000
set_option maxRecDepth 100000
theorem rshort_text (b : Bool) (n d : Nat) (w : World) (hc : Canon b n d) (hn : n < 1000000000) (hd : d < 1000000000) :
    Calls Tryz.prog 36 #[.string (bs (text b n d))] w fun e w' => e = .returned (.tuple #[.agg #[.int .i64 (sg b n), .int .i64 (d : Nat)], .bool true]) ∧ Below w.heap.size w w' := by
  have hsz := text_len (b := b) hn hd
  have HSP := Lib.hid (fun W => split_text b n d W hc (by omega))
  unfold RetSplit3 at HSP
  have hg := hc.2.1
  have hnl := dec_nine hn
  have hdl := dec_nine hd
  obtain ⟨s, hs⟩ : ∃ s, bs (text b n d) = s := ⟨_, rfl⟩
  have hss : s.size ≤ 20 := by rw [← hs, bs_size]; exact hsz
  rw [hs] at HSP ⊢
  have hd20 : decide ((20 : Int) < (s.size : Int)) = false := decide_eq_false (by omega)
  obtain ⟨W0, hW0⟩ : ∃ W0, w.alloc (.cells #[.int .i64 0, .int .i64 0] 62) = W0 := ⟨_, rfl⟩
  have B2 : Blk W0 w.heap.size 62 #[.int .i64 0, .int .i64 0] := by rw [← hW0]; exact Blk.new _ _ _
  have hbA : Below w.heap.size w W0 := by rw [← hW0]; exact (Below.refl _ _).alloc (Nat.le_refl _) _
  have HW0 := Lib.hid hW0
  obtain ⟨num, hnum⟩ : ∃ l, Lib.decDigits n = l := ⟨_, rfl⟩
  have HD := Lib.hid (fun W => dval_any (bs num) W (by rw [bs_size, ← hnum]; omega) (by rw [bs_data, ← hnum]; exact dec_allD n))
  rw [bs_data] at HD
  rw [show Qn.val num = n from by rw [← hnum]; exact val_dec n] at HD
  rw [hnum] at hnl HSP
  clear hW0 hs hsz hc hnum
  by_cases h1 : d = 1
  ·subst h1
   rw [if_pos rfl] at HSP
   clear hg
   go_enter Tryz.func36, Tryz.ntmps36
   go_upto_region 1 with (fail)
   rw [HW0.out]
   go_wp2_with (fail)
   refine (HSP.out W0).mono ?_
   rintro e w1 ⟨rfl, hb1⟩
   go_upto_region 4 with (fail)
   obtain ⟨W1, hW1⟩ : ∃ W1, w1.alloc (.cells #[.bool b, .string (bs num), .string (bs [])] 83) = W1 := ⟨_, rfl⟩
   have C2 : Blk W1 w.heap.size 62 #[.int .i64 0, .int .i64 0] := by rw [← hW1]; exact (B2.keep hb1 B2.lt).alloc _
   have C4 : Blk W1 w1.heap.size 83 #[.bool b, .string (bs num), .string (bs [])] := by rw [← hW1]; exact Blk.new _ _ _
   have hbB : Below w.heap.size w W1 := by rw [← hW1]; have := below_all hbA hb1; exact this.alloc this.size _
   have hz1 : w.heap.size < w1.heap.size := by have := B2.lt; have := hb1.size; omega
   rw [hW1]
   clear hW1 B2 hb1 hbA
   obtain ⟨a0, a1, a2, a3⟩ := C2.two
   obtain ⟨p0, p1, p2, _, _, _⟩ := C4.three
   have hz2 := C4.lt
   have hz3 := C2.lt
   have l1 : decide ((9 : Int) < ((bs num).size : Int)) = false := by rw [bs_size]; exact decide_eq_false (by omega)
   have l2 : decide ((9 : Int) < ((bs []).size : Int)) = false := by rw [bs_size]; exact decide_eq_false (by simp)
   have hbe : (bs []).toList.isEmpty = true := by rw [bs_toList]; rfl
   have hbe' : (bs []).toList = [] := by rw [bs_toList]
   go_upto_region 7 with (go_at_call 64; refine (HD.out _).mono ?_; rintro e w' ⟨rfl, rfl⟩)
   obtain ⟨W2, hW2⟩ : ∃ W2, W1.alloc (.cells #[.int .i64 n, .int .i64 1] 62) = W2 := ⟨_, rfl⟩
   have D2 : Blk W2 w.heap.size 62 #[.int .i64 0, .int .i64 0] := by rw [← hW2]; exact C2.alloc _
   have D4 : Blk W2 w1.heap.size 83 #[.bool b, .string (bs num), .string (bs [])] := by rw [← hW2]; exact C4.alloc _
   have D6 : Blk W2 W1.heap.size 62 #[.int .i64 n, .int .i64 1] := by rw [← hW2]; exact Blk.new W1 _ _
   have hbC : Below w.heap.size w W2 := by rw [← hW2]; exact hbB.alloc hbB.size _
   rw [hW2]
   have hz4 := D2.lt
   clear hW2 C2 C4 hbB a0 a1 a2 a3 p0 p1 p2
   obtain ⟨a0, a1, a2, a3⟩ := D2.two
   obtain ⟨p0, p1, p2, _, _, _⟩ := D4.three
   obtain ⟨x0, x1, x2, x3⟩ := D6.two
   cases b with
   | false =>
     go_wp2
     refine bodyPost_ret (v := .tuple #[.agg #[.int .i64 (sg false n), .int .i64 (1 : Nat)], .bool true]) (by simp [results, Tryz.results36, go_sem, a0, a1, sg]) rfl ⟨rfl, ?_⟩
     exact below_far (below_far hbC (by omega) _ _) (by omega) _ _
   | true =>
     go_wp2
     refine bodyPost_ret (v := .tuple #[.agg #[.int .i64 (sg true n), .int .i64 (1 : Nat)], .bool true]) (by simp [results, Tryz.results36, go_sem, a0, a1, sg]) rfl ⟨rfl, ?_⟩
     exact below_far (below_far (below_far hbC (by omega) _ _) (by omega) _ _) (by omega) _ _
  ·rw [if_neg h1] at HSP
   obtain ⟨den, hden⟩ : ∃ l, Lib.decDigits d = l := ⟨_, rfl⟩
   have HE := Lib.hid (fun W => dval_any (bs den) W (by rw [bs_size, ← hden]; omega) (by rw [bs_data, ← hden]; exact dec_allD d))
   rw [bs_data] at HE
   rw [show Qn.val den = d from by rw [← hden]; exact val_dec d] at HE
   have hdn : den ≠ [] := by rw [← hden]; exact dec_ne d
   rw [hden] at hdl HSP
   have HG := Lib.hid (fun W => sgcd_big n d W (by omega) (by omega))
   rw [hg] at HG
   have hbe : (bs den).toList.isEmpty = false := by rw [bs_toList]; cases den; exact absurd rfl hdn; rfl
   have hbe' : ¬ (bs den).toList = [] := by rw [bs_toList]; exact hdn
   clear hg hden hdn h1
   go_enter Tryz.func36, Tryz.ntmps36
   go_upto_region 1 with (fail)
   rw [HW0.out]
   go_wp2_with (fail)
   refine (HSP.out W0).mono ?_
   rintro e w1 ⟨rfl, hb1⟩
   go_upto_region 4 with (fail)
   obtain ⟨W1, hW1⟩ : ∃ W1, w1.alloc (.cells #[.bool b, .string (bs num), .string (bs den)] 83) = W1 := ⟨_, rfl⟩
   have C2 : Blk W1 w.heap.size 62 #[.int .i64 0, .int .i64 0] := by rw [← hW1]; exact (B2.keep hb1 B2.lt).alloc _
   have C4 : Blk W1 w1.heap.size 83 #[.bool b, .string (bs num), .string (bs den)] := by rw [← hW1]; exact Blk.new _ _ _
   have hbB : Below w.heap.size w W1 := by rw [← hW1]; have := below_all hbA hb1; exact this.alloc this.size _
   have hz1 : w.heap.size < w1.heap.size := by have := B2.lt; have := hb1.size; omega
   rw [hW1]
   clear hW1 B2 hb1 hbA
   obtain ⟨a0, a1, a2, a3⟩ := C2.two
   obtain ⟨p0, p1, p2, _, _, _⟩ := C4.three
   have hz2 := C4.lt
   have hz3 := C2.lt
   have l1 : decide ((9 : Int) < ((bs num).size : Int)) = false := by rw [bs_size]; exact decide_eq_false (by omega)
   have l2 : decide ((9 : Int) < ((bs den).size : Int)) = false := by rw [bs_size]; exact decide_eq_false (by omega)
   go_upto_region 9 with (first
     | (go_at_call 64; with_reducible refine Calls.mono (HD.out _) ?_; rintro e w' ⟨rfl, rfl⟩)
     | (go_at_call 64; with_reducible refine Calls.mono (HE.out _) ?_; rintro e w' ⟨rfl, rfl⟩))
   obtain ⟨W2, hW2⟩ : ∃ W2, W1.alloc (.cells #[.int .i64 n, .int .i64 d] 62) = W2 := ⟨_, rfl⟩
   have D2 : Blk W2 w.heap.size 62 #[.int .i64 0, .int .i64 0] := by rw [← hW2]; exact C2.alloc _
   have D4 : Blk W2 w1.heap.size 83 #[.bool b, .string (bs num), .string (bs den)] := by rw [← hW2]; exact C4.alloc _
   have D6 : Blk W2 W1.heap.size 62 #[.int .i64 n, .int .i64 d] := by rw [← hW2]; exact Blk.new W1 _ _
   have hbC : Below w.heap.size w W2 := by rw [← hW2]; exact hbB.alloc hbB.size _
   rw [hW2]
   clear hW2 C2 C4 hbB a0 a1 a2 a3 p0 p1 p2
   obtain ⟨x0, x1, x2, x3⟩ := D6.two
   go_wp2_with (fail)
   refine (HG.out _).mono ?_
   rintro e w5 ⟨rfl, hb5⟩
   have E2 := D2.keep hb5 D2.lt
   have E4 := D4.keep hb5 D4.lt
   have E6 := D6.keep hb5 D6.lt
   have hbE := below_all hbC hb5
   have hz4 := E2.lt
   clear D2 D4 D6 hbC hb5 x0 x1 x2 x3
   obtain ⟨a0, a1, a2, a3⟩ := E2.two
   obtain ⟨p0, p1, p2, _, _, _⟩ := E4.three
   obtain ⟨x0, x1, x2, x3⟩ := E6.two
   cases b with
   | false =>
     go_wp2
     refine bodyPost_ret (v := .tuple #[.agg #[.int .i64 (sg false n), .int .i64 d], .bool true]) (by simp [results, Tryz.results36, go_sem, a0, a1, sg]) rfl ⟨rfl, ?_⟩
     exact below_far (below_far hbE (by omega) _ _) (by omega) _ _
   | true =>
     go_wp2
     refine bodyPost_ret (v := .tuple #[.agg #[.int .i64 (sg true n), .int .i64 d], .bool true]) (by simp [results, Tryz.results36, go_sem, a0, a1, sg]) rfl ⟨rfl, ?_⟩
     exact below_far (below_far (below_far hbE (by omega) _ _) (by omega) _ _) (by omega) _ _
end Go.Proofs.Tg.Fi
end
section
/- The program's sums and products of numbers with short parts. -/
namespace Go.Proofs.Tg.Fi
open Go.RowKit Go.Rq Go.Qn Go.Proofs.Tg
set_option maxHeartbeats 6400000
set_option maxRecDepth 100000
theorem rshort_q (q : Rat) (h : Sh q) (w : World) :
    Calls Tryz.prog 36 #[.string (qtx q)] w fun e w' => e = .returned (.tuple #[.agg #[.int .i64 q.num, .int .i64 (q.den : Nat)], .bool true]) ∧ Below w.heap.size w w' := by
  have := rshort_text (decide (q.num < 0)) q.num.natAbs q.den w (canon q) h.1 h.2
  have e : sg (decide (q.num < 0)) q.num.natAbs = q.num := sgq q
  rwa [e] at this
theorem below_two {w V : World} {g : Nat} {a' b' : Value} (h : Below w.heap.size w V) (hg : w.heap.size ≤ g) : Below w.heap.size w ((V.setCell ⟨g, 0, none⟩ a').setCell ⟨g, 1, none⟩ b') := below_far (below_far h hg _ _) hg _ _
theorem rtwo_q (p q : Rat) (hp : Sh p) (hq : Sh q) (w : World) :
    Calls Tryz.prog 25 #[.string (qtx p), .string (qtx q)] w fun e w' => e = .returned (.tuple #[.agg #[.int .i64 p.num, .int .i64 (p.den : Nat)], .agg #[.int .i64 q.num, .int .i64 (q.den : Nat)], .bool true]) ∧ Below w.heap.size w w' := by
  have H1 := Lib.hid (fun W => rshort_q p hp W)
  have H2 := Lib.hid (fun W => rshort_q q hq W)
  generalize qtx p = S at *
  generalize qtx q = T at *
  generalize p.num = a at *
  generalize p.den = b at *
  generalize q.num = c at *
  generalize q.den = d at *
  obtain ⟨W, hW⟩ : ∃ W, (w.alloc (.cells #[.int .i64 0, .int .i64 0] 62)).alloc (.cells #[.int .i64 0, .int .i64 0] 62) = W := ⟨_, rfl⟩
  have B4 : Blk W w.heap.size 62 #[.int .i64 0, .int .i64 0] := by rw [← hW]; exact (Blk.new _ _ _).alloc _
  have B5 : Blk W (w.heap.size + 1) 62 #[.int .i64 0, .int .i64 0] := by
   rw [← hW]; have := Blk.new (w.alloc (.cells #[.int .i64 0, .int .i64 0] 62)) 62 #[.int .i64 0, .int .i64 0]
   simpa using this
  have hbW : Below w.heap.size w W := by rw [← hW]; exact ((Below.refl _ _).alloc (Nat.le_refl _) _).alloc (by simp) _
  have HW := Lib.hid hW
  clear hW hp hq
  go_enter Tryz.func25, Tryz.ntmps25
  go_upto_region 1 with (fail)
  rw [HW.out]
  go_wp2_with (fail)
  refine (H1.out _).mono ?_
  rintro e w1 ⟨rfl, hb1⟩
  obtain ⟨W1, hW1⟩ : ∃ W1, w1.alloc (.cells #[.int .i64 a, .int .i64 b] 62) = W1 := ⟨_, rfl⟩
  have hb1' := below_all hbW hb1
  have C4 : Blk W1 w.heap.size 62 #[.int .i64 0, .int .i64 0] := by rw [← hW1]; exact (B4.keep hb1 B4.lt).alloc _
  have C5 : Blk W1 (w.heap.size + 1) 62 #[.int .i64 0, .int .i64 0] := by rw [← hW1]; exact (B5.keep hb1 B5.lt).alloc _
  have C7 : Blk W1 w1.heap.size 62 #[.int .i64 a, .int .i64 b] := by rw [← hW1]; exact Blk.new _ _ _
  have hbW1 : Below w.heap.size w W1 := by rw [← hW1]; exact hb1'.alloc hb1'.size _
  have hz5 : w.heap.size + 1 < w1.heap.size := by have := B5.lt; have := hb1.size; omega
  go_upto_region 4 with (fail)
  try rw [hW1]
  clear hW1 B4 B5 hb1 hb1' H1
  go_wp2_with (fail)
  refine (H2.out _).mono ?_
  rintro e w2 ⟨rfl, hb2⟩
  obtain ⟨W2, hW2⟩ : ∃ W2, w2.alloc (.cells #[.int .i64 c, .int .i64 d] 62) = W2 := ⟨_, rfl⟩
  have hb2' := below_all hbW1 hb2
  have D4 : Blk W2 w.heap.size 62 #[.int .i64 0, .int .i64 0] := by rw [← hW2]; exact (C4.keep hb2 C4.lt).alloc _
  have D5 : Blk W2 (w.heap.size + 1) 62 #[.int .i64 0, .int .i64 0] := by rw [← hW2]; exact (C5.keep hb2 C5.lt).alloc _
  have D7 : Blk W2 w1.heap.size 62 #[.int .i64 a, .int .i64 b] := by rw [← hW2]; exact (C7.keep hb2 C7.lt).alloc _
  have D9 : Blk W2 w2.heap.size 62 #[.int .i64 c, .int .i64 d] := by rw [← hW2]; exact Blk.new _ _ _
  have hbW2 : Below w.heap.size w W2 := by rw [← hW2]; exact hb2'.alloc hb2'.size _
  have hz7 : w1.heap.size < w2.heap.size := by have := C7.lt; have := hb2.size; omega
  go_upto_region 7 with (fail)
  try rw [hW2]
  clear hW2 C4 C5 C7 hb2 hb2' H2 hbW1
  obtain ⟨x0, x1, x2, x3⟩ := D4.two
  obtain ⟨y0, y1, y2, y3⟩ := D5.two
  obtain ⟨a0, a1, a2, a3⟩ := D7.two
  obtain ⟨b0, b1, b2, b3⟩ := D9.two
  have HD4 := Lib.hid D4
  have HD5 := Lib.hid D5
  have HBE := Lib.hid hbW2
  clear D4 D5 D7 D9 hbW2 hbW
  have n1 : (w.heap.size = w1.heap.size) = False := eq_false (by omega)
  have n2 : (w.heap.size = w2.heap.size) = False := eq_false (by omega)
  have n3 : (w.heap.size + 1 = w1.heap.size) = False := eq_false (by omega)
  have n4 : (w.heap.size + 1 = w2.heap.size) = False := eq_false (by omega)
  go_region
  all_goals
    try go_wp2
    refine bodyPost_ret (v := .tuple #[.agg #[.int .i64 a, .int .i64 (b : Nat)], .agg #[.int .i64 c, .int .i64 (d : Nat)], .bool true]) (by simp [results, Tryz.results25, go_sem, x0, x1, y0, y1]) rfl ⟨rfl, ?_⟩
    first
      | exact below_two (below_two (below_drewN HBE.out 1) (by omega)) (by omega)
      | exact below_drewN (below_two (below_two HBE.out (by omega)) (by omega)) 1
theorem sh_num {q : Rat} (h : Sh q) : -1000000000 < q.num ∧ q.num < 1000000000 := by have := h.1; omega
theorem mul_lt9 {a b : Int} (ha : -1000000000 < a ∧ a < 1000000000) (hb : -1000000000 < b ∧ b < 1000000000) : -1000000000000000000 < a * b ∧ a * b < 1000000000000000000 := by
 have h : (a * b).natAbs < 1000000000 * 1000000000 := by
  rw [Int.natAbs_mul]
  exact Nat.mul_lt_mul'' (by omega) (by omega)
 omega
/-- The sum. -/
theorem add_q (p q : Rat) (hp : Sh p) (hq : Sh q) (w : World) (ht : PT w) :
    Calls Tryz.prog 18 #[.string (qtx p), .string (qtx q)] w (RetTx (p + q) w) := by
  have H := Lib.hid (rtwo_q p q hp hq w)
  have a1 := sh_num hp
  have c1 := sh_num hq
  have b1 : -1000000000 < (p.den : Int) ∧ (p.den : Int) < 1000000000 := by have := hp.2; omega
  have d1 : -1000000000 < (q.den : Int) ∧ (q.den : Int) < 1000000000 := by have := hq.2; omega
  have m1 := mul_lt9 a1 d1
  have m2 := mul_lt9 c1 b1
  have m3 := mul_lt9 b1 d1
  have hpq : mkRat (p.num * (q.den : Int) + q.num * (p.den : Int)) (p.den * q.den) = p + q := (Rat.add_def' p q).symm
  have hne : p.den * q.den ≠ 0 := Nat.mul_ne_zero p.den_nz q.den_nz
  have hcast : (p.den : Int) * (q.den : Int) = ((p.den * q.den : Nat) : Int) := by simp
  have hl : p.den * q.den < 9000000000000000000 := by omega
  rw [hcast] at m3
  have HF := Lib.hid (fun V (h : PT V) => fshort_any (p.num * (q.den : Int) + q.num * (p.den : Int)) (p.den * q.den) V (by omega) hl hne h)
  rw [hpq, ← hcast] at HF
  rw [← hcast] at m3
  have HT := Lib.hid ht
  unfold RetTx at *
  generalize p + q = R at *
  generalize qtx p = S at *
  generalize qtx q = T at *
  generalize qtx R = U at *
  clear hpq hne hcast hl hp hq ht
  generalize (q.den : Int) = d at *
  generalize (p.den : Int) = b at *
  generalize q.num = c at *
  generalize p.num = a at *
  have w1 : IntKind.i64.wrap (a * d) = a * d := IntWalk.i64_in _ (by omega)
  have w2 : IntKind.i64.wrap (c * b) = c * b := IntWalk.i64_in _ (by omega)
  have w3 : IntKind.i64.wrap (b * d) = b * d := IntWalk.i64_in _ (by omega)
  have w4 : IntKind.i64.wrap (a * d + c * b) = a * d + c * b := IntWalk.i64_in _ (by omega)
  clear m1 m2 m3 a1 b1 c1 d1
  go_enter Tryz.func18, Tryz.ntmps18
  go_wp2_with (fail)
  refine H.out.mono ?_
  rintro e w2 ⟨rfl, hb2⟩
  have HTT := Lib.hid (fun V (h : Below w2.heap.size w2 V) => (HT.out.keep hb2).keep h)
  go_wp2_with (fail)
  refine (HF.out _ (HTT.out _ (((Below.refl _ _).alloc (Nat.le_refl _) _).alloc (by simp) _))).mono ?_
  rintro e w3 ⟨rfl, hb3⟩
  go_wp2
  go_ret
  exact ⟨rfl, (hb2.trans ((((Below.refl w2.heap.size w2).alloc (Nat.le_refl _) _).alloc (by simp) _).mono hb2.size)).trans (hb3.mono (by have := hb2.size; simp; omega))⟩
/-- The product. -/
theorem mul_q (p q : Rat) (hp : Sh p) (hq : Sh q) (w : World) (ht : PT w) :
    Calls Tryz.prog 17 #[.string (qtx p), .string (qtx q)] w (RetTx (p * q) w) := by
  have H := Lib.hid (rtwo_q p q hp hq w)
  have a1 := sh_num hp
  have c1 := sh_num hq
  have b1 : -1000000000 < (p.den : Int) ∧ (p.den : Int) < 1000000000 := by have := hp.2; omega
  have d1 : -1000000000 < (q.den : Int) ∧ (q.den : Int) < 1000000000 := by have := hq.2; omega
  have m1 := mul_lt9 a1 c1
  have m3 := mul_lt9 b1 d1
  have hpq : mkRat (p.num * q.num) (p.den * q.den) = p * q := (Rat.mul_def' p q).symm
  have hne : p.den * q.den ≠ 0 := Nat.mul_ne_zero p.den_nz q.den_nz
  have hcast : (p.den : Int) * (q.den : Int) = ((p.den * q.den : Nat) : Int) := by simp
  have hl : p.den * q.den < 9000000000000000000 := by omega
  rw [hcast] at m3
  have HF := Lib.hid (fun V (h : PT V) => fshort_any (p.num * q.num) (p.den * q.den) V (by omega) hl hne h)
  rw [hpq, ← hcast] at HF
  rw [← hcast] at m3
  have HT := Lib.hid ht
  unfold RetTx at *
  generalize p * q = R at *
  generalize qtx p = S at *
  generalize qtx q = T at *
  generalize qtx R = U at *
  clear hpq hne hcast hl hp hq ht
  generalize (q.den : Int) = d at *
  generalize (p.den : Int) = b at *
  generalize q.num = c at *
  generalize p.num = a at *
  have w1 : IntKind.i64.wrap (a * c) = a * c := IntWalk.i64_in _ (by omega)
  have w3 : IntKind.i64.wrap (b * d) = b * d := IntWalk.i64_in _ (by omega)
  clear m1 m3 a1 b1 c1 d1
  go_enter Tryz.func17, Tryz.ntmps17
  go_wp2_with (fail)
  refine H.out.mono ?_
  rintro e w2 ⟨rfl, hb2⟩
  have HTT := Lib.hid (fun V (h : Below w2.heap.size w2 V) => (HT.out.keep hb2).keep h)
  go_wp2_with (fail)
  refine (HF.out _ (HTT.out _ (((Below.refl _ _).alloc (Nat.le_refl _) _).alloc (by simp) _))).mono ?_
  rintro e w3 ⟨rfl, hb3⟩
  go_wp2
  go_ret
  exact ⟨rfl, (hb2.trans ((((Below.refl w2.heap.size w2).alloc (Nat.le_refl _) _).alloc (by simp) _).mono hb2.size)).trans (hb3.mono (by have := hb2.size; simp; omega))⟩
theorem valid_q (q : Rat) (h : Sh q) (w : World) : Calls Tryz.prog 23 #[.string (qtx q)] w fun e w' => e = .returned (.bool true) ∧ Below w.heap.size w w' := by
 have H := Lib.hid (fun W => rshort_q q h W)
 generalize qtx q = S at *
 generalize q.num = a at *
 generalize q.den = b at *
 clear h
 go_enter Tryz.func23, Tryz.ntmps23
 go_wp2_with (fail)
 refine (H.out _).mono ?_
 rintro e w1 ⟨rfl, hb1⟩
 go_wp2
 go_ret
 exact ⟨rfl, hb1.alloc hb1.size _⟩
end Go.Proofs.Tg.Fi
end
