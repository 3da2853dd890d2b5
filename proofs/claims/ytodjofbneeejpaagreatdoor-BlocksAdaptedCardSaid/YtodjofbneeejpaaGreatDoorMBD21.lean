/- Parts of the proof: WHF. -/
import Derived.Test.YtodjofbneeejpaaGreatDoorMBD13
import Derived.Test.YtodjofbneeejpaaGreatDoorMBD18
import Derived.Test.YtodjofbneeejpaaGreatDoorMBD19
import Derived.Test.YtodjofbneeejpaaGreatDoorMBD20
section
/- The law's permutation (printed by wip/tools/mk_permu.py's trees). -/
namespace Go.Proofs.Tg.Bk
open Go.RowKit Go.Gr Go.Sp Go.Ev Go.Pm
open Go.Proofs.Tg.Gp (sl_take sl_drop sl_zero)
set_option maxHeartbeats 4000000
set_option maxRecDepth 100000
theorem que_base {w : World} {b b' : Nat} {e : TypeId} {v : Value} {xs : List Value} (h : Que w b e v xs) (hb : b' ≤ b) : Que w b' e v xs := by
 obtain ⟨g', o', cap', cur, h1, h2, h3⟩ := h
 exact ⟨g', o', cap', cur, h1, Nat.le_trans hb h2, h3⟩
/-- The place at which i is put in. -/
def keyP (l : List Int) (i : Nat) : Nat := if h : i < l.length then (modZ (l[i]'h) ((i : Int) + 1)).toNat else 0
theorem keyP_le (l : List Int) (i : Nat) : keyP l i ≤ i := by
 unfold keyP
 split
 ·rename_i h
  have := modZ_in (l[i]'h) (show (0 : Int) < (i : Int) + 1 by omega)
  omega
 ·omega
theorem permu_any (A : Option Addr) (c n : Nat) (l : List Int) (w : World) (hA : Ints w A l) (hl : l.length ≤ 1000000) (hn : n ≤ 6) :
    Calls Tryz.prog 26 #[.slice A l.length c, .int .i64 n] w fun e w' => ∃ E' c', e = .returned (.slice E' n c') ∧ Ints w' E' (permOf (keyP l) n) ∧ Below w.heap.size w w' := by
  have HA := Lib.hid hA
  have HPM : Hid (∀ i, Perm i (permOf (keyP l) i)) := Lib.hid (permOf_perm (keyP_le l))
  obtain ⟨i0, hi0, hz0, hz1, hz2⟩ := info_parts pint_info
  clear hA
  go_enter Tryz.func26, Tryz.ntmps26
  go_wp2
  go_loopw [6, 5] (fun s6 s5 wr => ∃ (i : Nat) (v : Value), s6 = .int .i64 i ∧ i ≤ n ∧ s5 = v ∧ Hid ((i = 0 ∧ v = .slice none 0 0) ∨ (0 < i ∧ Que wr w.heap.size 3 v ((permOf (keyP l) i).map vi))) ∧ Below w.heap.size w wr) (fun s6 _ _ => n - (intOf s6).toNat)
  case atStart => exact ⟨0, _, rfl, Nat.zero_le _, rfl, Lib.hid (.inl ⟨rfl, rfl⟩), Below.refl _ _⟩
  case round =>
   obtain ⟨wa, rfl⟩ : ∃ wa : World, wa = wr := ⟨_, rfl⟩
   obtain ⟨i, v, rfl, hi, hv5, HV, hba⟩ := hrel
   subst hv5
   by_cases hin : i < n
   ·have hkl := keyP_le l i
    go_upto_if 16 with (fail)
    go_cut [7] (fun s7 wx => s7 = .int .i64 (keyP l i : Nat) ∧ Below wa.heap.size wa wx)
    case first =>
     by_cases hil : i < l.length
     ·obtain ⟨ad, rfl, hc⟩ := Ints.at (HA.out.keep hba) hil
      have q0 : (0 : Int) ≤ (i : Int) := by omega
      have q1 : (i : Int) < (l.length : Int) := by omega
      have q3 : ((i : Int)).toNat = i := by omega
      have hz := modZ_in l[i] (show (0 : Int) < (i : Int) + 1 by omega)
      have hke : modZ l[i] ((i : Int) + 1) = ((keyP l i : Nat) : Int) := by unfold keyP; rw [dif_pos hil]; omega
      have hmod := fun V => Gx.mod_any l[i] ((i : Int) + 1) V (by omega) (by omega)
      rw [hke] at hmod
      have HMOD := Lib.hid hmod
      have d1 : decide ((i : Int) < (l.length : Int)) = true := decide_eq_true q1
      have d2 : decide (i < l.length) = true := decide_eq_true hil
      clear hmod hke hz
      generalize l[i] = x at *
      generalize keyP l i = m at *
      go_wp2_with (go_at_call 24; refine (HMOD.out _).mono ?_; rintro e w4 ⟨rfl, rfl⟩)
      go_meet
      exact ⟨rfl, Below.refl _ _⟩
     ·have hke : keyP l i = 0 := by unfold keyP; rw [dif_neg hil]
      have d1 : decide ((i : Int) < (l.length : Int)) = false := decide_eq_false (by omega)
      have d2 : decide (i < l.length) = false := decide_eq_false hil
      go_wp2
      go_meet
      exact ⟨by rw [hke]; rfl, Below.refl _ _⟩
    case rest =>
     obtain ⟨rfl, hbc⟩ := hcut
     obtain ⟨wo, rfl⟩ : ∃ wo : World, wo = wc := ⟨_, rfl⟩
     have hbo := below_all hba hbc
     have HNX : Hid (permOf (keyP l) (i + 1) = (permOf (keyP l) i).take (keyP l i) ++ (i : Int) :: (permOf (keyP l) i).drop (keyP l i)) := Lib.hid rfl
     have hPl := (HPM.out i).1
     have HV5 := Lib.hid (HV.out.imp id (fun h => And.intro h.1 (h.2.below hbc)))
     clear HV
     obtain ⟨P1, hP1⟩ : ∃ P1, permOf (keyP l) (i + 1) = P1 := ⟨_, rfl⟩
     rw [hP1] at HNX
     have HP1 := Lib.hid hP1
     clear hP1
     generalize permOf (keyP l) i = P at *
     generalize keyP l i = m at *
     rcases HV5.out with ⟨h0, hv⟩ | ⟨h0, hq⟩
     ·subst hv
      subst h0
      obtain rfl : m = 0 := by omega
      obtain rfl : P = [] := List.eq_nil_of_length_eq_zero hPl
      clear HV5
      go_upto_region 8 with (fail)
      have BZ : Below wo.heap.size wo wo.drew := (Below.refl _ _).drew
      refine wp_region_held_drew (S := (fun w' => True)) (by kernel_rfl) trivial (fun hHeld => ?_)
      generalize wo.drew = Z at *
      refine wpAnyH_get 1 (some 25) (.slice none 0 0) rfl rfl (by kernel_rfl) (by kernel_rfl) (by kernel_rfl) (fun _ _ _ h => h) (by rfl) hHeld ?_ ?_
      ·(intro w hSw; (try dsimp only at hSw); go_simp; all_goals (try with_reducible rfl))
      (try simp only [Act.put, List.setIfInBounds_toArray, List.set_cons_zero, List.set_cons_succ])
      refine wpAnyH_get 2 (some 26) (.int .i64 0) rfl rfl (by kernel_rfl) (by kernel_rfl) (by kernel_rfl) (fun _ _ _ h => h) (by rfl) hHeld ?_ ?_
      ·(intro w hSw; (try dsimp only at hSw); go_simp; all_goals (try with_reducible rfl))
      (try simp only [Act.put, List.setIfInBounds_toArray, List.set_cons_zero, List.set_cons_succ])
      refine wpAnyH_get 3 (some 27) (.slice none 0 0) rfl rfl (by kernel_rfl) (by kernel_rfl) (by kernel_rfl) (fun _ _ _ h => h) (by rfl) hHeld ?_ ?_
      ·(intro w hSw; (try dsimp only at hSw); go_simp; all_goals (try with_reducible rfl))
      (try simp only [Act.put, List.setIfInBounds_toArray, List.set_cons_zero, List.set_cons_succ])
      refine wpAnyH_get 5 (some 29) (.int .i64 0) rfl rfl (by kernel_rfl) (by kernel_rfl) (by kernel_rfl) (fun _ _ _ h => h) (by rfl) hHeld ?_ ?_
      ·(intro w hSw; (try dsimp only at hSw); go_simp; all_goals (try with_reducible rfl))
      (try simp only [Act.put, List.setIfInBounds_toArray, List.set_cons_zero, List.set_cons_succ])
      refine wpAnyH_get 8 (some 32) (.slice none 0 0) rfl rfl (by kernel_rfl) (by kernel_rfl) (by kernel_rfl) (fun _ _ _ h => h) (by rfl) hHeld ?_ ?_
      ·(intro w hSw; (try dsimp only at hSw); go_simp; all_goals (try with_reducible rfl))
      (try simp only [Act.put, List.setIfInBounds_toArray, List.set_cons_zero, List.set_cons_succ])
      refine wpAnyH_get 9 (some 33) (.int .i64 0) rfl rfl (by kernel_rfl) (by kernel_rfl) (by kernel_rfl) (fun _ _ _ h => h) (by rfl) hHeld ?_ ?_
      ·(intro w hSw; (try dsimp only at hSw); go_simp; all_goals (try with_reducible rfl))
      (try simp only [Act.put, List.setIfInBounds_toArray, List.set_cons_zero, List.set_cons_succ])
      refine wpAnyH_get 10 (some 34) (.slice none 0 0) rfl rfl (by kernel_rfl) (by kernel_rfl) (by kernel_rfl) (fun _ _ _ h => h) (by rfl) hHeld ?_ ?_
      ·(intro w hSw; (try dsimp only at hSw); go_simp; all_goals (try with_reducible rfl))
      (try simp only [Act.put, List.setIfInBounds_toArray, List.set_cons_zero, List.set_cons_succ])
      refine wpAnyH_ready (rs := [0, 6]) (by kernel_rfl) (by simp) ?_
      refine AllReadyH.cons rfl (fun K hK => ?_) (AllReadyH.cons rfl (fun K hK => ?_) AllReadyH.nil)
      ·go_simp
       have hba : Below Z.heap.size Z (Z.alloc (.cells #[] 3)) := (Below.refl _ _).alloc (Nat.le_refl _) _
       have BZ1 := below_all BZ hba
       have Q0 := Que.of_blk (base := wo.heap.size) (xs := []) (Blk.new Z 3 #[]) BZ.size (by simp [maxLen])
       refine hK.out _ _ trivial (fun hHeld => ?_)
       clear hK K hba
       (try simp only [Act.put, List.setIfInBounds_toArray, List.set_cons_zero, List.set_cons_succ])
       generalize Z.alloc (.cells #[] 3) = Z1 at *
       generalize Z.heap.size = g0 at *
       (try simp only [Act.put, List.setIfInBounds_toArray, List.set_cons_zero, List.set_cons_succ])
       refine wpAnyH_ready (rs := [4, 6]) (by kernel_rfl) (by simp) ?_
       refine AllReadyH.cons rfl (fun K hK => ?_) (AllReadyH.cons rfl (fun K hK => ?_) AllReadyH.nil)
       ·refine step_que_appends _ (.inl rfl) _ _ 22 (by rfl) wo.heap.size 3 i0 (.int .i64 0) 8 Tryz.underlying22 hi0 hz0 hz1 hz2 rfl (.slice (some ⟨g0, 0, none⟩) 0 0) [] (by simp [Act.eval]) Q0 (.slice none 0 0) 0 [] (by simp [Act.eval]) (src_sl Tryz.underlying22 (Sl.nil _ _ _) (by simp)) (by simp [maxLen] <;> omega) (by simp <;> omega) BZ1.size ?_
        intro v4 Z2 Q4 hg _
        have BZ2 := BZ1.grown hg BZ1.size (fun q hq => by
         obtain ⟨_, h1, h2, _⟩ := Q0.blk
         have h3 := h1.symm.trans hq
         injection h3 with h3
         omega)
        (try change K (Act.put _ (some 28) v4) Z2)
        refine hK.out _ _ trivial (fun hHeld => ?_)
        clear hK K hg
        (try simp only [Act.put, List.setIfInBounds_toArray, List.set_cons_zero, List.set_cons_succ])
        refine wpAnyH_ready (rs := [6]) (by kernel_rfl) (by simp) ?_
        refine AllReadyH.cons rfl (fun K hK => ?_) AllReadyH.nil
        go_simp
        have hba : Below Z2.heap.size Z2 (Z2.alloc (.cells #[.int .i64 0] 3)) := (Below.refl _ _).alloc (Nat.le_refl _) _
        have BZ3 := below_all BZ2 hba
        have Q4 := Q4.below hba
        have G6 := Blk.new Z2 3 #[.int .i64 0]
        refine hK.out _ _ trivial (fun hHeld => ?_)
        clear hK K hba
        (try simp only [Act.put, List.setIfInBounds_toArray, List.set_cons_zero, List.set_cons_succ])
        generalize Z2.alloc (.cells #[.int .i64 0] 3) = Z3 at *
        generalize Z2.heap.size = g6 at *
        (try simp only [Act.put, List.setIfInBounds_toArray, List.set_cons_zero, List.set_cons_succ])
        refine wpAnyH_ready (rs := [7]) (by kernel_rfl) (by simp) ?_
        refine AllReadyH.cons rfl (fun K hK => ?_) AllReadyH.nil
        refine step_que_appends _ (.inl rfl) _ _ 22 (by rfl) wo.heap.size 3 i0 (.int .i64 0) 8 Tryz.underlying22 hi0 hz0 hz1 hz2 rfl v4 ([] ++ []) (by simp [Act.eval]) Q4 (.slice (some ⟨g6, 0, none⟩) 1 1) 1 [.int .i64 0] (by simp [Act.eval]) (src_sl Tryz.underlying22 (Gp.sl_one1 G6) (by simp [Value.oneCell'])) (by simp [maxLen] <;> omega) (by simp <;> omega) BZ3.size ?_
        intro v7 Z4 Q7 hg _
        have BZ4 := BZ3.grown hg BZ3.size (fun q hq => by
         obtain ⟨_, h1, h2, _⟩ := Q4.blk
         have h3 := h1.symm.trans hq
         injection h3 with h3
         omega)
        (try change K (Act.put _ (some 31) v7) Z4)
        refine hK.out _ _ trivial (fun hHeld => ?_)
        clear hK K hg
        (try simp only [Act.put, List.setIfInBounds_toArray, List.set_cons_zero, List.set_cons_succ])
        refine wpAnyH_ready (rs := [11]) (by kernel_rfl) (by simp) ?_
        refine AllReadyH.cons rfl (fun K hK => ?_) AllReadyH.nil
        refine step_que_appends _ (.inl rfl) _ _ 22 (by rfl) wo.heap.size 3 i0 (.int .i64 0) 8 Tryz.underlying22 hi0 hz0 hz1 hz2 rfl v7 ([] ++ [] ++ [.int .i64 0]) (by simp [Act.eval]) Q7 (.slice none 0 0) 0 [] (by simp [Act.eval]) (src_sl Tryz.underlying22 (Sl.nil _ _ _) (by simp)) (by simp [maxLen] <;> omega) (by simp <;> omega) BZ4.size ?_
        intro v11 Z5 Q11 hg _
        have BZ5 := BZ4.grown hg BZ4.size (fun q hq => by
         obtain ⟨_, h1, h2, _⟩ := Q7.blk
         have h3 := h1.symm.trans hq
         injection h3 with h3
         omega)
        (try change K (Act.put _ (some 35) v11) Z5)
        refine hK.out _ _ trivial (fun hHeld => ?_)
        clear hK K hg
        (try simp only [Act.put, List.setIfInBounds_toArray, List.set_cons_zero, List.set_cons_succ])
        refine wpAnyH_get 12 (some 5) (v11) rfl rfl (by kernel_rfl) (by kernel_rfl) (by kernel_rfl) (fun _ _ _ h => h) (by rfl) hHeld ?_ ?_
        ·(intro w hSw; (try dsimp only at hSw); go_simp; all_goals (try with_reducible rfl))
        (try simp only [Act.put, List.setIfInBounds_toArray, List.set_cons_zero, List.set_cons_succ])
        refine wpAnyH_done (by kernel_rfl) ?_ _
        go_wp2
        go_roundw
        case rel => exact ⟨1, _, by go_num, by omega, rfl, Lib.hid (.inr ⟨by omega, (by rw [show permOf (keyP l) (1) = P1 from HP1.out]; exact que_base (xs := P1.map vi) (by simpa [HNX.out, vi] using Q11) hbo.size)⟩), below_all hbo BZ5⟩
        case measure => simp [intOf]; omega
       ·go_simp
        have hne6 : Z1.heap.size ≠ g0 := by
         obtain ⟨_, h1, _, h3⟩ := Q0.blk
         injection h1 with h1
         change g0 = _ at h1
         omega
        have hba : Below Z1.heap.size Z1 (Z1.alloc (.cells #[.int .i64 0] 3)) := (Below.refl _ _).alloc (Nat.le_refl _) _
        have BZ6 := below_all BZ1 hba
        have Q0 := Q0.below hba
        have G6 := Blk.new Z1 3 #[.int .i64 0]
        refine hK.out _ _ trivial (fun hHeld => ?_)
        clear hK K hba
        (try simp only [Act.put, List.setIfInBounds_toArray, List.set_cons_zero, List.set_cons_succ])
        generalize Z1.alloc (.cells #[.int .i64 0] 3) = Z6 at *
        generalize Z1.heap.size = g6 at *
        (try simp only [Act.put, List.setIfInBounds_toArray, List.set_cons_zero, List.set_cons_succ])
        refine wpAnyH_ready (rs := [4]) (by kernel_rfl) (by simp) ?_
        refine AllReadyH.cons rfl (fun K hK => ?_) AllReadyH.nil
        refine step_que_appends _ (.inl rfl) _ _ 22 (by rfl) wo.heap.size 3 i0 (.int .i64 0) 8 Tryz.underlying22 hi0 hz0 hz1 hz2 rfl (.slice (some ⟨g0, 0, none⟩) 0 0) [] (by simp [Act.eval]) Q0 (.slice none 0 0) 0 [] (by simp [Act.eval]) (src_sl Tryz.underlying22 (Sl.nil _ _ _) (by simp)) (by simp [maxLen] <;> omega) (by simp <;> omega) BZ6.size ?_
        intro v4 Z7 Q4 hg _
        have BZ7 := BZ6.grown hg BZ6.size (fun q hq => by
         obtain ⟨_, h1, h2, _⟩ := Q0.blk
         have h3 := h1.symm.trans hq
         injection h3 with h3
         omega)
        have G6 := G6.grown hg (by simpa [Value.ownBlock] using hne6)
        (try change K (Act.put _ (some 28) v4) Z7)
        refine hK.out _ _ trivial (fun hHeld => ?_)
        clear hK K hg
        (try simp only [Act.put, List.setIfInBounds_toArray, List.set_cons_zero, List.set_cons_succ])
        refine wpAnyH_ready (rs := [7]) (by kernel_rfl) (by simp) ?_
        refine AllReadyH.cons rfl (fun K hK => ?_) AllReadyH.nil
        refine step_que_appends _ (.inl rfl) _ _ 22 (by rfl) wo.heap.size 3 i0 (.int .i64 0) 8 Tryz.underlying22 hi0 hz0 hz1 hz2 rfl v4 ([] ++ []) (by simp [Act.eval]) Q4 (.slice (some ⟨g6, 0, none⟩) 1 1) 1 [.int .i64 0] (by simp [Act.eval]) (src_sl Tryz.underlying22 (Gp.sl_one1 G6) (by simp [Value.oneCell'])) (by simp [maxLen] <;> omega) (by simp <;> omega) BZ7.size ?_
        intro v7 Z8 Q7 hg _
        have BZ8 := BZ7.grown hg BZ7.size (fun q hq => by
         obtain ⟨_, h1, h2, _⟩ := Q4.blk
         have h3 := h1.symm.trans hq
         injection h3 with h3
         omega)
        (try change K (Act.put _ (some 31) v7) Z8)
        refine hK.out _ _ trivial (fun hHeld => ?_)
        clear hK K hg
        (try simp only [Act.put, List.setIfInBounds_toArray, List.set_cons_zero, List.set_cons_succ])
        refine wpAnyH_ready (rs := [11]) (by kernel_rfl) (by simp) ?_
        refine AllReadyH.cons rfl (fun K hK => ?_) AllReadyH.nil
        refine step_que_appends _ (.inl rfl) _ _ 22 (by rfl) wo.heap.size 3 i0 (.int .i64 0) 8 Tryz.underlying22 hi0 hz0 hz1 hz2 rfl v7 ([] ++ [] ++ [.int .i64 0]) (by simp [Act.eval]) Q7 (.slice none 0 0) 0 [] (by simp [Act.eval]) (src_sl Tryz.underlying22 (Sl.nil _ _ _) (by simp)) (by simp [maxLen] <;> omega) (by simp <;> omega) BZ8.size ?_
        intro v11 Z9 Q11 hg _
        have BZ9 := BZ8.grown hg BZ8.size (fun q hq => by
         obtain ⟨_, h1, h2, _⟩ := Q7.blk
         have h3 := h1.symm.trans hq
         injection h3 with h3
         omega)
        (try change K (Act.put _ (some 35) v11) Z9)
        refine hK.out _ _ trivial (fun hHeld => ?_)
        clear hK K hg
        (try simp only [Act.put, List.setIfInBounds_toArray, List.set_cons_zero, List.set_cons_succ])
        refine wpAnyH_get 12 (some 5) (v11) rfl rfl (by kernel_rfl) (by kernel_rfl) (by kernel_rfl) (fun _ _ _ h => h) (by rfl) hHeld ?_ ?_
        ·(intro w hSw; (try dsimp only at hSw); go_simp; all_goals (try with_reducible rfl))
        (try simp only [Act.put, List.setIfInBounds_toArray, List.set_cons_zero, List.set_cons_succ])
        refine wpAnyH_done (by kernel_rfl) ?_ _
        go_wp2
        go_roundw
        case rel => exact ⟨1, _, by go_num, by omega, rfl, Lib.hid (.inr ⟨by omega, (by rw [show permOf (keyP l) (1) = P1 from HP1.out]; exact que_base (xs := P1.map vi) (by simpa [HNX.out, vi] using Q11) hbo.size)⟩), below_all hbo BZ9⟩
        case measure => simp [intOf]; omega
      ·go_simp
       have hba : Below Z.heap.size Z (Z.alloc (.cells #[.int .i64 0] 3)) := (Below.refl _ _).alloc (Nat.le_refl _) _
       have BZ10 := below_all BZ hba
       have G6 := Blk.new Z 3 #[.int .i64 0]
       refine hK.out _ _ trivial (fun hHeld => ?_)
       clear hK K hba
       (try simp only [Act.put, List.setIfInBounds_toArray, List.set_cons_zero, List.set_cons_succ])
       generalize Z.alloc (.cells #[.int .i64 0] 3) = Z10 at *
       generalize Z.heap.size = g6 at *
       (try simp only [Act.put, List.setIfInBounds_toArray, List.set_cons_zero, List.set_cons_succ])
       refine wpAnyH_ready (rs := [0]) (by kernel_rfl) (by simp) ?_
       refine AllReadyH.cons rfl (fun K hK => ?_) AllReadyH.nil
       go_simp
       have hne6 : g6 ≠ Z10.heap.size := by have := G6.lt; omega
       have hba : Below Z10.heap.size Z10 (Z10.alloc (.cells #[] 3)) := (Below.refl _ _).alloc (Nat.le_refl _) _
       have BZ11 := below_all BZ10 hba
       have G6 := G6.keep hba G6.lt
       have Q0 := Que.of_blk (base := wo.heap.size) (xs := []) (Blk.new Z10 3 #[]) BZ10.size (by simp [maxLen])
       refine hK.out _ _ trivial (fun hHeld => ?_)
       clear hK K hba
       (try simp only [Act.put, List.setIfInBounds_toArray, List.set_cons_zero, List.set_cons_succ])
       generalize Z10.alloc (.cells #[] 3) = Z11 at *
       generalize Z10.heap.size = g0 at *
       (try simp only [Act.put, List.setIfInBounds_toArray, List.set_cons_zero, List.set_cons_succ])
       refine wpAnyH_ready (rs := [4]) (by kernel_rfl) (by simp) ?_
       refine AllReadyH.cons rfl (fun K hK => ?_) AllReadyH.nil
       refine step_que_appends _ (.inl rfl) _ _ 22 (by rfl) wo.heap.size 3 i0 (.int .i64 0) 8 Tryz.underlying22 hi0 hz0 hz1 hz2 rfl (.slice (some ⟨g0, 0, none⟩) 0 0) [] (by simp [Act.eval]) Q0 (.slice none 0 0) 0 [] (by simp [Act.eval]) (src_sl Tryz.underlying22 (Sl.nil _ _ _) (by simp)) (by simp [maxLen] <;> omega) (by simp <;> omega) BZ11.size ?_
       intro v4 Z12 Q4 hg _
       have BZ12 := BZ11.grown hg BZ11.size (fun q hq => by
        obtain ⟨_, h1, h2, _⟩ := Q0.blk
        have h3 := h1.symm.trans hq
        injection h3 with h3
        omega)
       have G6 := G6.grown hg (by simpa [Value.ownBlock] using hne6)
       (try change K (Act.put _ (some 28) v4) Z12)
       refine hK.out _ _ trivial (fun hHeld => ?_)
       clear hK K hg
       (try simp only [Act.put, List.setIfInBounds_toArray, List.set_cons_zero, List.set_cons_succ])
       refine wpAnyH_ready (rs := [7]) (by kernel_rfl) (by simp) ?_
       refine AllReadyH.cons rfl (fun K hK => ?_) AllReadyH.nil
       refine step_que_appends _ (.inl rfl) _ _ 22 (by rfl) wo.heap.size 3 i0 (.int .i64 0) 8 Tryz.underlying22 hi0 hz0 hz1 hz2 rfl v4 ([] ++ []) (by simp [Act.eval]) Q4 (.slice (some ⟨g6, 0, none⟩) 1 1) 1 [.int .i64 0] (by simp [Act.eval]) (src_sl Tryz.underlying22 (Gp.sl_one1 G6) (by simp [Value.oneCell'])) (by simp [maxLen] <;> omega) (by simp <;> omega) BZ12.size ?_
       intro v7 Z13 Q7 hg _
       have BZ13 := BZ12.grown hg BZ12.size (fun q hq => by
        obtain ⟨_, h1, h2, _⟩ := Q4.blk
        have h3 := h1.symm.trans hq
        injection h3 with h3
        omega)
       (try change K (Act.put _ (some 31) v7) Z13)
       refine hK.out _ _ trivial (fun hHeld => ?_)
       clear hK K hg
       (try simp only [Act.put, List.setIfInBounds_toArray, List.set_cons_zero, List.set_cons_succ])
       refine wpAnyH_ready (rs := [11]) (by kernel_rfl) (by simp) ?_
       refine AllReadyH.cons rfl (fun K hK => ?_) AllReadyH.nil
       refine step_que_appends _ (.inl rfl) _ _ 22 (by rfl) wo.heap.size 3 i0 (.int .i64 0) 8 Tryz.underlying22 hi0 hz0 hz1 hz2 rfl v7 ([] ++ [] ++ [.int .i64 0]) (by simp [Act.eval]) Q7 (.slice none 0 0) 0 [] (by simp [Act.eval]) (src_sl Tryz.underlying22 (Sl.nil _ _ _) (by simp)) (by simp [maxLen] <;> omega) (by simp <;> omega) BZ13.size ?_
       intro v11 Z14 Q11 hg _
       have BZ14 := BZ13.grown hg BZ13.size (fun q hq => by
        obtain ⟨_, h1, h2, _⟩ := Q7.blk
        have h3 := h1.symm.trans hq
        injection h3 with h3
        omega)
       (try change K (Act.put _ (some 35) v11) Z14)
       refine hK.out _ _ trivial (fun hHeld => ?_)
       clear hK K hg
       (try simp only [Act.put, List.setIfInBounds_toArray, List.set_cons_zero, List.set_cons_succ])
       refine wpAnyH_get 12 (some 5) (v11) rfl rfl (by kernel_rfl) (by kernel_rfl) (by kernel_rfl) (fun _ _ _ h => h) (by rfl) hHeld ?_ ?_
       ·(intro w hSw; (try dsimp only at hSw); go_simp; all_goals (try with_reducible rfl))
       (try simp only [Act.put, List.setIfInBounds_toArray, List.set_cons_zero, List.set_cons_succ])
       refine wpAnyH_done (by kernel_rfl) ?_ _
       go_wp2
       go_roundw
       case rel => exact ⟨1, _, by go_num, by omega, rfl, Lib.hid (.inr ⟨by omega, (by rw [show permOf (keyP l) (1) = P1 from HP1.out]; exact que_base (xs := P1.map vi) (by simpa [HNX.out, vi] using Q11) hbo.size)⟩), below_all hbo BZ14⟩
       case measure => simp [intOf]; omega
     ·obtain ⟨od, co, hv, hSl5, _⟩ := hq.sl
      have hcapo : i ≤ co := by
       obtain ⟨_, _, cap', _, e2, _, _, e4, _⟩ := hq
       rw [hv] at e2
       injection e2 with _ _ e5
       rw [e5]
       rw [List.length_map, hPl] at e4
       exact e4
      have hlm : (P.map vi).length = i := by rw [List.length_map, hPl]
      rw [hlm] at hv hSl5
      subst hv
      have hmo : m ≤ i := hkl
      have hco0 : (co = 0) = False := eq_false (by omega)
      have m0 : (0 : Int) ≤ (m : Int) := by omega
      have m1 : (m : Int) ≤ (i : Int) := by omega
      have m2 : (m : Int) ≤ (co : Int) := by omega
      have m3 : ((m : Int)).toNat = m := by omega
      have HON1 : Hid (∀ u ∈ (P.map vi).take m, u.oneCell' = true) := Lib.hid (fun u hu => by
       obtain ⟨r, _, rfl⟩ := List.mem_map.1 (List.mem_of_mem_take hu)
       rfl)
      have HON2 : Hid (∀ u ∈ (P.map vi).drop m, u.oneCell' = true) := Lib.hid (fun u hu => by
       obtain ⟨r, _, rfl⟩ := List.mem_map.1 (List.mem_of_mem_drop hu)
       rfl)
      clear HV5 hq hlm
      go_upto_region 8 with (fail)
      by_cases hcm : m = co
      ·subst hcm
       have hfull : i ≤ m := hcapo
       have BZ : Below wo.heap.size wo wo.drew := (Below.refl _ _).drew
       refine wp_region_held_drew (S := (fun w' => True)) (by kernel_rfl) trivial (fun hHeld => ?_)
       generalize wo.drew = Z at *
       refine wpAnyH_get 1 (some 25) (.slice (some od) i m) rfl rfl (by kernel_rfl) (by kernel_rfl) (by kernel_rfl) (fun _ _ _ h => h) (by rfl) hHeld ?_ ?_
       ·(intro w hSw; (try dsimp only at hSw); go_simp; all_goals (try with_reducible rfl))
       (try simp only [Act.put, List.setIfInBounds_toArray, List.set_cons_zero, List.set_cons_succ])
       refine wpAnyH_get 2 (some 26) (.int .i64 m) rfl rfl (by kernel_rfl) (by kernel_rfl) (by kernel_rfl) (fun _ _ _ h => h) (by rfl) hHeld ?_ ?_
       ·(intro w hSw; (try dsimp only at hSw); go_simp; all_goals (try with_reducible rfl))
       (try simp only [Act.put, List.setIfInBounds_toArray, List.set_cons_zero, List.set_cons_succ])
       refine wpAnyH_get 3 (some 27) (.slice (some od) m m) rfl rfl (by kernel_rfl) (by kernel_rfl) (by kernel_rfl) (fun _ _ _ h => h) (by rfl) hHeld ?_ ?_
       ·(intro w hSw; (try dsimp only at hSw); go_simp; all_goals (try with_reducible rfl))
       (try simp only [Act.put, List.setIfInBounds_toArray, List.set_cons_zero, List.set_cons_succ])
       refine wpAnyH_get 5 (some 29) (.int .i64 i) rfl rfl (by kernel_rfl) (by kernel_rfl) (by kernel_rfl) (fun _ _ _ h => h) (by rfl) hHeld ?_ ?_
       ·(intro w hSw; (try dsimp only at hSw); go_simp; all_goals (try with_reducible rfl))
       (try simp only [Act.put, List.setIfInBounds_toArray, List.set_cons_zero, List.set_cons_succ])
       refine wpAnyH_get 8 (some 32) (.slice (some od) i m) rfl rfl (by kernel_rfl) (by kernel_rfl) (by kernel_rfl) (fun _ _ _ h => h) (by rfl) hHeld ?_ ?_
       ·(intro w hSw; (try dsimp only at hSw); go_simp; all_goals (try with_reducible rfl))
       (try simp only [Act.put, List.setIfInBounds_toArray, List.set_cons_zero, List.set_cons_succ])
       refine wpAnyH_get 9 (some 33) (.int .i64 m) rfl rfl (by kernel_rfl) (by kernel_rfl) (by kernel_rfl) (fun _ _ _ h => h) (by rfl) hHeld ?_ ?_
       ·(intro w hSw; (try dsimp only at hSw); go_simp; all_goals (try with_reducible rfl))
       (try simp only [Act.put, List.setIfInBounds_toArray, List.set_cons_zero, List.set_cons_succ])
       refine wpAnyH_get 10 (some 34) (.slice (some od) 0 0) rfl rfl (by kernel_rfl) (by kernel_rfl) (by kernel_rfl) (fun _ _ _ h => h) (by rfl) hHeld ?_ ?_
       ·(intro w hSw; (try dsimp only at hSw); go_simp; all_goals (try with_reducible rfl))
       (try simp only [Act.put, List.setIfInBounds_toArray, List.set_cons_zero, List.set_cons_succ])
       refine wpAnyH_ready (rs := [0, 6]) (by kernel_rfl) (by simp) ?_
       refine AllReadyH.cons rfl (fun K hK => ?_) (AllReadyH.cons rfl (fun K hK => ?_) AllReadyH.nil)
       ·go_simp
        have hba : Below Z.heap.size Z (Z.alloc (.cells #[] 3)) := (Below.refl _ _).alloc (Nat.le_refl _) _
        have BZ1 := below_all BZ hba
        have Q0 := Que.of_blk (base := wo.heap.size) (xs := []) (Blk.new Z 3 #[]) BZ.size (by simp [maxLen])
        refine hK.out _ _ trivial (fun hHeld => ?_)
        clear hK K hba
        (try simp only [Act.put, List.setIfInBounds_toArray, List.set_cons_zero, List.set_cons_succ])
        generalize Z.alloc (.cells #[] 3) = Z1 at *
        generalize Z.heap.size = g0 at *
        (try simp only [Act.put, List.setIfInBounds_toArray, List.set_cons_zero, List.set_cons_succ])
        refine wpAnyH_ready (rs := [4, 6]) (by kernel_rfl) (by simp) ?_
        refine AllReadyH.cons rfl (fun K hK => ?_) (AllReadyH.cons rfl (fun K hK => ?_) AllReadyH.nil)
        ·refine step_que_appends _ (.inl rfl) _ _ 22 (by rfl) wo.heap.size 3 i0 (.int .i64 0) 8 Tryz.underlying22 hi0 hz0 hz1 hz2 rfl (.slice (some ⟨g0, 0, none⟩) 0 0) [] (by simp [Act.eval]) Q0 (.slice (some od) m m) m ((P.map vi).take m) (by simp [Act.eval]) (src_sl Tryz.underlying22 (sl_take (hSl5.keep BZ1) hmo) HON1.out) (by simp [maxLen] <;> omega) (by simp <;> omega) BZ1.size ?_
         intro v4 Z2 Q4 hg _
         have BZ2 := BZ1.grown hg BZ1.size (fun q hq => by
          obtain ⟨_, h1, h2, _⟩ := Q0.blk
          have h3 := h1.symm.trans hq
          injection h3 with h3
          omega)
         (try change K (Act.put _ (some 28) v4) Z2)
         refine hK.out _ _ trivial (fun hHeld => ?_)
         clear hK K hg
         (try simp only [Act.put, List.setIfInBounds_toArray, List.set_cons_zero, List.set_cons_succ])
         refine wpAnyH_ready (rs := [6]) (by kernel_rfl) (by simp) ?_
         refine AllReadyH.cons rfl (fun K hK => ?_) AllReadyH.nil
         go_simp
         have hba : Below Z2.heap.size Z2 (Z2.alloc (.cells #[.int .i64 i] 3)) := (Below.refl _ _).alloc (Nat.le_refl _) _
         have BZ3 := below_all BZ2 hba
         have Q4 := Q4.below hba
         have G6 := Blk.new Z2 3 #[.int .i64 i]
         refine hK.out _ _ trivial (fun hHeld => ?_)
         clear hK K hba
         (try simp only [Act.put, List.setIfInBounds_toArray, List.set_cons_zero, List.set_cons_succ])
         generalize Z2.alloc (.cells #[.int .i64 i] 3) = Z3 at *
         generalize Z2.heap.size = g6 at *
         (try simp only [Act.put, List.setIfInBounds_toArray, List.set_cons_zero, List.set_cons_succ])
         refine wpAnyH_ready (rs := [7]) (by kernel_rfl) (by simp) ?_
         refine AllReadyH.cons rfl (fun K hK => ?_) AllReadyH.nil
         refine step_que_appends _ (.inl rfl) _ _ 22 (by rfl) wo.heap.size 3 i0 (.int .i64 0) 8 Tryz.underlying22 hi0 hz0 hz1 hz2 rfl v4 ([] ++ ((P.map vi).take m)) (by simp [Act.eval]) Q4 (.slice (some ⟨g6, 0, none⟩) 1 1) 1 [.int .i64 i] (by simp [Act.eval]) (src_sl Tryz.underlying22 (Gp.sl_one1 G6) (by simp [Value.oneCell'])) (by simp [maxLen] <;> omega) (by simp <;> omega) BZ3.size ?_
         intro v7 Z4 Q7 hg _
         have BZ4 := BZ3.grown hg BZ3.size (fun q hq => by
          obtain ⟨_, h1, h2, _⟩ := Q4.blk
          have h3 := h1.symm.trans hq
          injection h3 with h3
          omega)
         (try change K (Act.put _ (some 31) v7) Z4)
         refine hK.out _ _ trivial (fun hHeld => ?_)
         clear hK K hg
         (try simp only [Act.put, List.setIfInBounds_toArray, List.set_cons_zero, List.set_cons_succ])
         refine wpAnyH_ready (rs := [11]) (by kernel_rfl) (by simp) ?_
         refine AllReadyH.cons rfl (fun K hK => ?_) AllReadyH.nil
         refine step_que_appends _ (.inl rfl) _ _ 22 (by rfl) wo.heap.size 3 i0 (.int .i64 0) 8 Tryz.underlying22 hi0 hz0 hz1 hz2 rfl v7 ([] ++ ((P.map vi).take m) ++ [.int .i64 i]) (by simp [Act.eval]) Q7 (.slice (some od) 0 0) 0 ((P.map vi).drop m) (by simp [Act.eval]) (src_sl Tryz.underlying22 (sl_zero (by rw [List.drop_eq_nil_of_le (by simp; omega)]) rfl) HON2.out) (by simp [maxLen] <;> omega) (by simp <;> omega) BZ4.size ?_
         intro v11 Z5 Q11 hg _
         have BZ5 := BZ4.grown hg BZ4.size (fun q hq => by
          obtain ⟨_, h1, h2, _⟩ := Q7.blk
          have h3 := h1.symm.trans hq
          injection h3 with h3
          omega)
         (try change K (Act.put _ (some 35) v11) Z5)
         refine hK.out _ _ trivial (fun hHeld => ?_)
         clear hK K hg
         (try simp only [Act.put, List.setIfInBounds_toArray, List.set_cons_zero, List.set_cons_succ])
         refine wpAnyH_get 12 (some 5) (v11) rfl rfl (by kernel_rfl) (by kernel_rfl) (by kernel_rfl) (fun _ _ _ h => h) (by rfl) hHeld ?_ ?_
         ·(intro w hSw; (try dsimp only at hSw); go_simp; all_goals (try with_reducible rfl))
         (try simp only [Act.put, List.setIfInBounds_toArray, List.set_cons_zero, List.set_cons_succ])
         refine wpAnyH_done (by kernel_rfl) ?_ _
         go_wp2
         go_roundw
         case rel => exact ⟨i + 1, _, by go_num, by omega, rfl, Lib.hid (.inr ⟨by omega, (by rw [show permOf (keyP l) (i + 1) = P1 from HP1.out]; exact que_base (xs := P1.map vi) (by rw [HNX.out]; simpa [vi, List.map_take, List.map_drop] using Q11) hbo.size)⟩), below_all hbo BZ5⟩
         case measure => simp [intOf]; omega
        ·go_simp
         have hne6 : Z1.heap.size ≠ g0 := by
          obtain ⟨_, h1, _, h3⟩ := Q0.blk
          injection h1 with h1
          change g0 = _ at h1
          omega
         have hba : Below Z1.heap.size Z1 (Z1.alloc (.cells #[.int .i64 i] 3)) := (Below.refl _ _).alloc (Nat.le_refl _) _
         have BZ6 := below_all BZ1 hba
         have Q0 := Q0.below hba
         have G6 := Blk.new Z1 3 #[.int .i64 i]
         refine hK.out _ _ trivial (fun hHeld => ?_)
         clear hK K hba
         (try simp only [Act.put, List.setIfInBounds_toArray, List.set_cons_zero, List.set_cons_succ])
         generalize Z1.alloc (.cells #[.int .i64 i] 3) = Z6 at *
         generalize Z1.heap.size = g6 at *
         (try simp only [Act.put, List.setIfInBounds_toArray, List.set_cons_zero, List.set_cons_succ])
         refine wpAnyH_ready (rs := [4]) (by kernel_rfl) (by simp) ?_
         refine AllReadyH.cons rfl (fun K hK => ?_) AllReadyH.nil
         refine step_que_appends _ (.inl rfl) _ _ 22 (by rfl) wo.heap.size 3 i0 (.int .i64 0) 8 Tryz.underlying22 hi0 hz0 hz1 hz2 rfl (.slice (some ⟨g0, 0, none⟩) 0 0) [] (by simp [Act.eval]) Q0 (.slice (some od) m m) m ((P.map vi).take m) (by simp [Act.eval]) (src_sl Tryz.underlying22 (sl_take (hSl5.keep BZ6) hmo) HON1.out) (by simp [maxLen] <;> omega) (by simp <;> omega) BZ6.size ?_
         intro v4 Z7 Q4 hg _
         have BZ7 := BZ6.grown hg BZ6.size (fun q hq => by
          obtain ⟨_, h1, h2, _⟩ := Q0.blk
          have h3 := h1.symm.trans hq
          injection h3 with h3
          omega)
         have G6 := G6.grown hg (by simpa [Value.ownBlock] using hne6)
         (try change K (Act.put _ (some 28) v4) Z7)
         refine hK.out _ _ trivial (fun hHeld => ?_)
         clear hK K hg
         (try simp only [Act.put, List.setIfInBounds_toArray, List.set_cons_zero, List.set_cons_succ])
         refine wpAnyH_ready (rs := [7]) (by kernel_rfl) (by simp) ?_
         refine AllReadyH.cons rfl (fun K hK => ?_) AllReadyH.nil
         refine step_que_appends _ (.inl rfl) _ _ 22 (by rfl) wo.heap.size 3 i0 (.int .i64 0) 8 Tryz.underlying22 hi0 hz0 hz1 hz2 rfl v4 ([] ++ ((P.map vi).take m)) (by simp [Act.eval]) Q4 (.slice (some ⟨g6, 0, none⟩) 1 1) 1 [.int .i64 i] (by simp [Act.eval]) (src_sl Tryz.underlying22 (Gp.sl_one1 G6) (by simp [Value.oneCell'])) (by simp [maxLen] <;> omega) (by simp <;> omega) BZ7.size ?_
         intro v7 Z8 Q7 hg _
         have BZ8 := BZ7.grown hg BZ7.size (fun q hq => by
          obtain ⟨_, h1, h2, _⟩ := Q4.blk
          have h3 := h1.symm.trans hq
          injection h3 with h3
          omega)
         (try change K (Act.put _ (some 31) v7) Z8)
         refine hK.out _ _ trivial (fun hHeld => ?_)
         clear hK K hg
         (try simp only [Act.put, List.setIfInBounds_toArray, List.set_cons_zero, List.set_cons_succ])
         refine wpAnyH_ready (rs := [11]) (by kernel_rfl) (by simp) ?_
         refine AllReadyH.cons rfl (fun K hK => ?_) AllReadyH.nil
         refine step_que_appends _ (.inl rfl) _ _ 22 (by rfl) wo.heap.size 3 i0 (.int .i64 0) 8 Tryz.underlying22 hi0 hz0 hz1 hz2 rfl v7 ([] ++ ((P.map vi).take m) ++ [.int .i64 i]) (by simp [Act.eval]) Q7 (.slice (some od) 0 0) 0 ((P.map vi).drop m) (by simp [Act.eval]) (src_sl Tryz.underlying22 (sl_zero (by rw [List.drop_eq_nil_of_le (by simp; omega)]) rfl) HON2.out) (by simp [maxLen] <;> omega) (by simp <;> omega) BZ8.size ?_
         intro v11 Z9 Q11 hg _
         have BZ9 := BZ8.grown hg BZ8.size (fun q hq => by
          obtain ⟨_, h1, h2, _⟩ := Q7.blk
          have h3 := h1.symm.trans hq
          injection h3 with h3
          omega)
         (try change K (Act.put _ (some 35) v11) Z9)
         refine hK.out _ _ trivial (fun hHeld => ?_)
         clear hK K hg
         (try simp only [Act.put, List.setIfInBounds_toArray, List.set_cons_zero, List.set_cons_succ])
         refine wpAnyH_get 12 (some 5) (v11) rfl rfl (by kernel_rfl) (by kernel_rfl) (by kernel_rfl) (fun _ _ _ h => h) (by rfl) hHeld ?_ ?_
         ·(intro w hSw; (try dsimp only at hSw); go_simp; all_goals (try with_reducible rfl))
         (try simp only [Act.put, List.setIfInBounds_toArray, List.set_cons_zero, List.set_cons_succ])
         refine wpAnyH_done (by kernel_rfl) ?_ _
         go_wp2
         go_roundw
         case rel => exact ⟨i + 1, _, by go_num, by omega, rfl, Lib.hid (.inr ⟨by omega, (by rw [show permOf (keyP l) (i + 1) = P1 from HP1.out]; exact que_base (xs := P1.map vi) (by rw [HNX.out]; simpa [vi, List.map_take, List.map_drop] using Q11) hbo.size)⟩), below_all hbo BZ9⟩
         case measure => simp [intOf]; omega
       ·go_simp
        have hba : Below Z.heap.size Z (Z.alloc (.cells #[.int .i64 i] 3)) := (Below.refl _ _).alloc (Nat.le_refl _) _
        have BZ10 := below_all BZ hba
        have G6 := Blk.new Z 3 #[.int .i64 i]
        refine hK.out _ _ trivial (fun hHeld => ?_)
        clear hK K hba
        (try simp only [Act.put, List.setIfInBounds_toArray, List.set_cons_zero, List.set_cons_succ])
        generalize Z.alloc (.cells #[.int .i64 i] 3) = Z10 at *
        generalize Z.heap.size = g6 at *
        (try simp only [Act.put, List.setIfInBounds_toArray, List.set_cons_zero, List.set_cons_succ])
        refine wpAnyH_ready (rs := [0]) (by kernel_rfl) (by simp) ?_
        refine AllReadyH.cons rfl (fun K hK => ?_) AllReadyH.nil
        go_simp
        have hne6 : g6 ≠ Z10.heap.size := by have := G6.lt; omega
        have hba : Below Z10.heap.size Z10 (Z10.alloc (.cells #[] 3)) := (Below.refl _ _).alloc (Nat.le_refl _) _
        have BZ11 := below_all BZ10 hba
        have G6 := G6.keep hba G6.lt
        have Q0 := Que.of_blk (base := wo.heap.size) (xs := []) (Blk.new Z10 3 #[]) BZ10.size (by simp [maxLen])
        refine hK.out _ _ trivial (fun hHeld => ?_)
        clear hK K hba
        (try simp only [Act.put, List.setIfInBounds_toArray, List.set_cons_zero, List.set_cons_succ])
        generalize Z10.alloc (.cells #[] 3) = Z11 at *
        generalize Z10.heap.size = g0 at *
        (try simp only [Act.put, List.setIfInBounds_toArray, List.set_cons_zero, List.set_cons_succ])
        refine wpAnyH_ready (rs := [4]) (by kernel_rfl) (by simp) ?_
        refine AllReadyH.cons rfl (fun K hK => ?_) AllReadyH.nil
        refine step_que_appends _ (.inl rfl) _ _ 22 (by rfl) wo.heap.size 3 i0 (.int .i64 0) 8 Tryz.underlying22 hi0 hz0 hz1 hz2 rfl (.slice (some ⟨g0, 0, none⟩) 0 0) [] (by simp [Act.eval]) Q0 (.slice (some od) m m) m ((P.map vi).take m) (by simp [Act.eval]) (src_sl Tryz.underlying22 (sl_take (hSl5.keep BZ11) hmo) HON1.out) (by simp [maxLen] <;> omega) (by simp <;> omega) BZ11.size ?_
        intro v4 Z12 Q4 hg _
        have BZ12 := BZ11.grown hg BZ11.size (fun q hq => by
         obtain ⟨_, h1, h2, _⟩ := Q0.blk
         have h3 := h1.symm.trans hq
         injection h3 with h3
         omega)
        have G6 := G6.grown hg (by simpa [Value.ownBlock] using hne6)
        (try change K (Act.put _ (some 28) v4) Z12)
        refine hK.out _ _ trivial (fun hHeld => ?_)
        clear hK K hg
        (try simp only [Act.put, List.setIfInBounds_toArray, List.set_cons_zero, List.set_cons_succ])
        refine wpAnyH_ready (rs := [7]) (by kernel_rfl) (by simp) ?_
        refine AllReadyH.cons rfl (fun K hK => ?_) AllReadyH.nil
        refine step_que_appends _ (.inl rfl) _ _ 22 (by rfl) wo.heap.size 3 i0 (.int .i64 0) 8 Tryz.underlying22 hi0 hz0 hz1 hz2 rfl v4 ([] ++ ((P.map vi).take m)) (by simp [Act.eval]) Q4 (.slice (some ⟨g6, 0, none⟩) 1 1) 1 [.int .i64 i] (by simp [Act.eval]) (src_sl Tryz.underlying22 (Gp.sl_one1 G6) (by simp [Value.oneCell'])) (by simp [maxLen] <;> omega) (by simp <;> omega) BZ12.size ?_
        intro v7 Z13 Q7 hg _
        have BZ13 := BZ12.grown hg BZ12.size (fun q hq => by
         obtain ⟨_, h1, h2, _⟩ := Q4.blk
         have h3 := h1.symm.trans hq
         injection h3 with h3
         omega)
        (try change K (Act.put _ (some 31) v7) Z13)
        refine hK.out _ _ trivial (fun hHeld => ?_)
        clear hK K hg
        (try simp only [Act.put, List.setIfInBounds_toArray, List.set_cons_zero, List.set_cons_succ])
        refine wpAnyH_ready (rs := [11]) (by kernel_rfl) (by simp) ?_
        refine AllReadyH.cons rfl (fun K hK => ?_) AllReadyH.nil
        refine step_que_appends _ (.inl rfl) _ _ 22 (by rfl) wo.heap.size 3 i0 (.int .i64 0) 8 Tryz.underlying22 hi0 hz0 hz1 hz2 rfl v7 ([] ++ ((P.map vi).take m) ++ [.int .i64 i]) (by simp [Act.eval]) Q7 (.slice (some od) 0 0) 0 ((P.map vi).drop m) (by simp [Act.eval]) (src_sl Tryz.underlying22 (sl_zero (by rw [List.drop_eq_nil_of_le (by simp; omega)]) rfl) HON2.out) (by simp [maxLen] <;> omega) (by simp <;> omega) BZ13.size ?_
        intro v11 Z14 Q11 hg _
        have BZ14 := BZ13.grown hg BZ13.size (fun q hq => by
         obtain ⟨_, h1, h2, _⟩ := Q7.blk
         have h3 := h1.symm.trans hq
         injection h3 with h3
         omega)
        (try change K (Act.put _ (some 35) v11) Z14)
        refine hK.out _ _ trivial (fun hHeld => ?_)
        clear hK K hg
        (try simp only [Act.put, List.setIfInBounds_toArray, List.set_cons_zero, List.set_cons_succ])
        refine wpAnyH_get 12 (some 5) (v11) rfl rfl (by kernel_rfl) (by kernel_rfl) (by kernel_rfl) (fun _ _ _ h => h) (by rfl) hHeld ?_ ?_
        ·(intro w hSw; (try dsimp only at hSw); go_simp; all_goals (try with_reducible rfl))
        (try simp only [Act.put, List.setIfInBounds_toArray, List.set_cons_zero, List.set_cons_succ])
        refine wpAnyH_done (by kernel_rfl) ?_ _
        go_wp2
        go_roundw
        case rel => exact ⟨i + 1, _, by go_num, by omega, rfl, Lib.hid (.inr ⟨by omega, (by rw [show permOf (keyP l) (i + 1) = P1 from HP1.out]; exact que_base (xs := P1.map vi) (by rw [HNX.out]; simpa [vi, List.map_take, List.map_drop] using Q11) hbo.size)⟩), below_all hbo BZ14⟩
        case measure => simp [intOf]; omega
      ·have hcmf : (co = m) = False := eq_false (fun e => hcm e.symm)
       have BZ : Below wo.heap.size wo wo.drew := (Below.refl _ _).drew
       refine wp_region_held_drew (S := (fun w' => True)) (by kernel_rfl) trivial (fun hHeld => ?_)
       generalize wo.drew = Z at *
       refine wpAnyH_get 1 (some 25) (.slice (some od) i co) rfl rfl (by kernel_rfl) (by kernel_rfl) (by kernel_rfl) (fun _ _ _ h => h) (by rfl) hHeld ?_ ?_
       ·(intro w hSw; (try dsimp only at hSw); go_simp; all_goals (try with_reducible rfl))
       (try simp only [Act.put, List.setIfInBounds_toArray, List.set_cons_zero, List.set_cons_succ])
       refine wpAnyH_get 2 (some 26) (.int .i64 m) rfl rfl (by kernel_rfl) (by kernel_rfl) (by kernel_rfl) (fun _ _ _ h => h) (by rfl) hHeld ?_ ?_
       ·(intro w hSw; (try dsimp only at hSw); go_simp; all_goals (try with_reducible rfl))
       (try simp only [Act.put, List.setIfInBounds_toArray, List.set_cons_zero, List.set_cons_succ])
       refine wpAnyH_get 3 (some 27) (.slice (some od) m co) rfl rfl (by kernel_rfl) (by kernel_rfl) (by kernel_rfl) (fun _ _ _ h => h) (by rfl) hHeld ?_ ?_
       ·(intro w hSw; (try dsimp only at hSw); go_simp; all_goals (try with_reducible rfl))
       (try simp only [Act.put, List.setIfInBounds_toArray, List.set_cons_zero, List.set_cons_succ])
       refine wpAnyH_get 5 (some 29) (.int .i64 i) rfl rfl (by kernel_rfl) (by kernel_rfl) (by kernel_rfl) (fun _ _ _ h => h) (by rfl) hHeld ?_ ?_
       ·(intro w hSw; (try dsimp only at hSw); go_simp; all_goals (try with_reducible rfl))
       (try simp only [Act.put, List.setIfInBounds_toArray, List.set_cons_zero, List.set_cons_succ])
       refine wpAnyH_get 8 (some 32) (.slice (some od) i co) rfl rfl (by kernel_rfl) (by kernel_rfl) (by kernel_rfl) (fun _ _ _ h => h) (by rfl) hHeld ?_ ?_
       ·(intro w hSw; (try dsimp only at hSw); go_simp; all_goals (try with_reducible rfl))
       (try simp only [Act.put, List.setIfInBounds_toArray, List.set_cons_zero, List.set_cons_succ])
       refine wpAnyH_get 9 (some 33) (.int .i64 m) rfl rfl (by kernel_rfl) (by kernel_rfl) (by kernel_rfl) (fun _ _ _ h => h) (by rfl) hHeld ?_ ?_
       ·(intro w hSw; (try dsimp only at hSw); go_simp; all_goals (try with_reducible rfl))
       (try simp only [Act.put, List.setIfInBounds_toArray, List.set_cons_zero, List.set_cons_succ])
       refine wpAnyH_get 10 (some 34) (.slice (some (od.add m)) (i - m) (co - m)) rfl rfl (by kernel_rfl) (by kernel_rfl) (by kernel_rfl) (fun _ _ _ h => h) (by rfl) hHeld ?_ ?_
       ·(intro w hSw; (try dsimp only at hSw); go_simp; all_goals (try with_reducible rfl))
       (try simp only [Act.put, List.setIfInBounds_toArray, List.set_cons_zero, List.set_cons_succ])
       refine wpAnyH_ready (rs := [0, 6]) (by kernel_rfl) (by simp) ?_
       refine AllReadyH.cons rfl (fun K hK => ?_) (AllReadyH.cons rfl (fun K hK => ?_) AllReadyH.nil)
       ·go_simp
        have hba : Below Z.heap.size Z (Z.alloc (.cells #[] 3)) := (Below.refl _ _).alloc (Nat.le_refl _) _
        have BZ1 := below_all BZ hba
        have Q0 := Que.of_blk (base := wo.heap.size) (xs := []) (Blk.new Z 3 #[]) BZ.size (by simp [maxLen])
        refine hK.out _ _ trivial (fun hHeld => ?_)
        clear hK K hba
        (try simp only [Act.put, List.setIfInBounds_toArray, List.set_cons_zero, List.set_cons_succ])
        generalize Z.alloc (.cells #[] 3) = Z1 at *
        generalize Z.heap.size = g0 at *
        (try simp only [Act.put, List.setIfInBounds_toArray, List.set_cons_zero, List.set_cons_succ])
        refine wpAnyH_ready (rs := [4, 6]) (by kernel_rfl) (by simp) ?_
        refine AllReadyH.cons rfl (fun K hK => ?_) (AllReadyH.cons rfl (fun K hK => ?_) AllReadyH.nil)
        ·refine step_que_appends _ (.inl rfl) _ _ 22 (by rfl) wo.heap.size 3 i0 (.int .i64 0) 8 Tryz.underlying22 hi0 hz0 hz1 hz2 rfl (.slice (some ⟨g0, 0, none⟩) 0 0) [] (by simp [Act.eval]) Q0 (.slice (some od) m co) m ((P.map vi).take m) (by simp [Act.eval]) (src_sl Tryz.underlying22 (sl_take (hSl5.keep BZ1) hmo) HON1.out) (by simp [maxLen] <;> omega) (by simp <;> omega) BZ1.size ?_
         intro v4 Z2 Q4 hg _
         have BZ2 := BZ1.grown hg BZ1.size (fun q hq => by
          obtain ⟨_, h1, h2, _⟩ := Q0.blk
          have h3 := h1.symm.trans hq
          injection h3 with h3
          omega)
         (try change K (Act.put _ (some 28) v4) Z2)
         refine hK.out _ _ trivial (fun hHeld => ?_)
         clear hK K hg
         (try simp only [Act.put, List.setIfInBounds_toArray, List.set_cons_zero, List.set_cons_succ])
         refine wpAnyH_ready (rs := [6]) (by kernel_rfl) (by simp) ?_
         refine AllReadyH.cons rfl (fun K hK => ?_) AllReadyH.nil
         go_simp
         have hba : Below Z2.heap.size Z2 (Z2.alloc (.cells #[.int .i64 i] 3)) := (Below.refl _ _).alloc (Nat.le_refl _) _
         have BZ3 := below_all BZ2 hba
         have Q4 := Q4.below hba
         have G6 := Blk.new Z2 3 #[.int .i64 i]
         refine hK.out _ _ trivial (fun hHeld => ?_)
         clear hK K hba
         (try simp only [Act.put, List.setIfInBounds_toArray, List.set_cons_zero, List.set_cons_succ])
         generalize Z2.alloc (.cells #[.int .i64 i] 3) = Z3 at *
         generalize Z2.heap.size = g6 at *
         (try simp only [Act.put, List.setIfInBounds_toArray, List.set_cons_zero, List.set_cons_succ])
         refine wpAnyH_ready (rs := [7]) (by kernel_rfl) (by simp) ?_
         refine AllReadyH.cons rfl (fun K hK => ?_) AllReadyH.nil
         refine step_que_appends _ (.inl rfl) _ _ 22 (by rfl) wo.heap.size 3 i0 (.int .i64 0) 8 Tryz.underlying22 hi0 hz0 hz1 hz2 rfl v4 ([] ++ ((P.map vi).take m)) (by simp [Act.eval]) Q4 (.slice (some ⟨g6, 0, none⟩) 1 1) 1 [.int .i64 i] (by simp [Act.eval]) (src_sl Tryz.underlying22 (Gp.sl_one1 G6) (by simp [Value.oneCell'])) (by simp [maxLen] <;> omega) (by simp <;> omega) BZ3.size ?_
         intro v7 Z4 Q7 hg _
         have BZ4 := BZ3.grown hg BZ3.size (fun q hq => by
          obtain ⟨_, h1, h2, _⟩ := Q4.blk
          have h3 := h1.symm.trans hq
          injection h3 with h3
          omega)
         (try change K (Act.put _ (some 31) v7) Z4)
         refine hK.out _ _ trivial (fun hHeld => ?_)
         clear hK K hg
         (try simp only [Act.put, List.setIfInBounds_toArray, List.set_cons_zero, List.set_cons_succ])
         refine wpAnyH_ready (rs := [11]) (by kernel_rfl) (by simp) ?_
         refine AllReadyH.cons rfl (fun K hK => ?_) AllReadyH.nil
         refine step_que_appends _ (.inl rfl) _ _ 22 (by rfl) wo.heap.size 3 i0 (.int .i64 0) 8 Tryz.underlying22 hi0 hz0 hz1 hz2 rfl v7 ([] ++ ((P.map vi).take m) ++ [.int .i64 i]) (by simp [Act.eval]) Q7 (.slice (some (od.add m)) (i - m) (co - m)) (i - m) ((P.map vi).drop m) (by simp [Act.eval]) (src_sl Tryz.underlying22 (sl_drop (hSl5.keep BZ4) hmo) HON2.out) (by simp [maxLen] <;> omega) (by simp <;> omega) BZ4.size ?_
         intro v11 Z5 Q11 hg _
         have BZ5 := BZ4.grown hg BZ4.size (fun q hq => by
          obtain ⟨_, h1, h2, _⟩ := Q7.blk
          have h3 := h1.symm.trans hq
          injection h3 with h3
          omega)
         (try change K (Act.put _ (some 35) v11) Z5)
         refine hK.out _ _ trivial (fun hHeld => ?_)
         clear hK K hg
         (try simp only [Act.put, List.setIfInBounds_toArray, List.set_cons_zero, List.set_cons_succ])
         refine wpAnyH_get 12 (some 5) (v11) rfl rfl (by kernel_rfl) (by kernel_rfl) (by kernel_rfl) (fun _ _ _ h => h) (by rfl) hHeld ?_ ?_
         ·(intro w hSw; (try dsimp only at hSw); go_simp; all_goals (try with_reducible rfl))
         (try simp only [Act.put, List.setIfInBounds_toArray, List.set_cons_zero, List.set_cons_succ])
         refine wpAnyH_done (by kernel_rfl) ?_ _
         go_wp2
         go_roundw
         case rel => exact ⟨i + 1, _, by go_num, by omega, rfl, Lib.hid (.inr ⟨by omega, (by rw [show permOf (keyP l) (i + 1) = P1 from HP1.out]; exact que_base (xs := P1.map vi) (by rw [HNX.out]; simpa [vi, List.map_take, List.map_drop] using Q11) hbo.size)⟩), below_all hbo BZ5⟩
         case measure => simp [intOf]; omega
        ·go_simp
         have hne6 : Z1.heap.size ≠ g0 := by
          obtain ⟨_, h1, _, h3⟩ := Q0.blk
          injection h1 with h1
          change g0 = _ at h1
          omega
         have hba : Below Z1.heap.size Z1 (Z1.alloc (.cells #[.int .i64 i] 3)) := (Below.refl _ _).alloc (Nat.le_refl _) _
         have BZ6 := below_all BZ1 hba
         have Q0 := Q0.below hba
         have G6 := Blk.new Z1 3 #[.int .i64 i]
         refine hK.out _ _ trivial (fun hHeld => ?_)
         clear hK K hba
         (try simp only [Act.put, List.setIfInBounds_toArray, List.set_cons_zero, List.set_cons_succ])
         generalize Z1.alloc (.cells #[.int .i64 i] 3) = Z6 at *
         generalize Z1.heap.size = g6 at *
         (try simp only [Act.put, List.setIfInBounds_toArray, List.set_cons_zero, List.set_cons_succ])
         refine wpAnyH_ready (rs := [4]) (by kernel_rfl) (by simp) ?_
         refine AllReadyH.cons rfl (fun K hK => ?_) AllReadyH.nil
         refine step_que_appends _ (.inl rfl) _ _ 22 (by rfl) wo.heap.size 3 i0 (.int .i64 0) 8 Tryz.underlying22 hi0 hz0 hz1 hz2 rfl (.slice (some ⟨g0, 0, none⟩) 0 0) [] (by simp [Act.eval]) Q0 (.slice (some od) m co) m ((P.map vi).take m) (by simp [Act.eval]) (src_sl Tryz.underlying22 (sl_take (hSl5.keep BZ6) hmo) HON1.out) (by simp [maxLen] <;> omega) (by simp <;> omega) BZ6.size ?_
         intro v4 Z7 Q4 hg _
         have BZ7 := BZ6.grown hg BZ6.size (fun q hq => by
          obtain ⟨_, h1, h2, _⟩ := Q0.blk
          have h3 := h1.symm.trans hq
          injection h3 with h3
          omega)
         have G6 := G6.grown hg (by simpa [Value.ownBlock] using hne6)
         (try change K (Act.put _ (some 28) v4) Z7)
         refine hK.out _ _ trivial (fun hHeld => ?_)
         clear hK K hg
         (try simp only [Act.put, List.setIfInBounds_toArray, List.set_cons_zero, List.set_cons_succ])
         refine wpAnyH_ready (rs := [7]) (by kernel_rfl) (by simp) ?_
         refine AllReadyH.cons rfl (fun K hK => ?_) AllReadyH.nil
         refine step_que_appends _ (.inl rfl) _ _ 22 (by rfl) wo.heap.size 3 i0 (.int .i64 0) 8 Tryz.underlying22 hi0 hz0 hz1 hz2 rfl v4 ([] ++ ((P.map vi).take m)) (by simp [Act.eval]) Q4 (.slice (some ⟨g6, 0, none⟩) 1 1) 1 [.int .i64 i] (by simp [Act.eval]) (src_sl Tryz.underlying22 (Gp.sl_one1 G6) (by simp [Value.oneCell'])) (by simp [maxLen] <;> omega) (by simp <;> omega) BZ7.size ?_
         intro v7 Z8 Q7 hg _
         have BZ8 := BZ7.grown hg BZ7.size (fun q hq => by
          obtain ⟨_, h1, h2, _⟩ := Q4.blk
          have h3 := h1.symm.trans hq
          injection h3 with h3
          omega)
         (try change K (Act.put _ (some 31) v7) Z8)
         refine hK.out _ _ trivial (fun hHeld => ?_)
         clear hK K hg
         (try simp only [Act.put, List.setIfInBounds_toArray, List.set_cons_zero, List.set_cons_succ])
         refine wpAnyH_ready (rs := [11]) (by kernel_rfl) (by simp) ?_
         refine AllReadyH.cons rfl (fun K hK => ?_) AllReadyH.nil
         refine step_que_appends _ (.inl rfl) _ _ 22 (by rfl) wo.heap.size 3 i0 (.int .i64 0) 8 Tryz.underlying22 hi0 hz0 hz1 hz2 rfl v7 ([] ++ ((P.map vi).take m) ++ [.int .i64 i]) (by simp [Act.eval]) Q7 (.slice (some (od.add m)) (i - m) (co - m)) (i - m) ((P.map vi).drop m) (by simp [Act.eval]) (src_sl Tryz.underlying22 (sl_drop (hSl5.keep BZ8) hmo) HON2.out) (by simp [maxLen] <;> omega) (by simp <;> omega) BZ8.size ?_
         intro v11 Z9 Q11 hg _
         have BZ9 := BZ8.grown hg BZ8.size (fun q hq => by
          obtain ⟨_, h1, h2, _⟩ := Q7.blk
          have h3 := h1.symm.trans hq
          injection h3 with h3
          omega)
         (try change K (Act.put _ (some 35) v11) Z9)
         refine hK.out _ _ trivial (fun hHeld => ?_)
         clear hK K hg
         (try simp only [Act.put, List.setIfInBounds_toArray, List.set_cons_zero, List.set_cons_succ])
         refine wpAnyH_get 12 (some 5) (v11) rfl rfl (by kernel_rfl) (by kernel_rfl) (by kernel_rfl) (fun _ _ _ h => h) (by rfl) hHeld ?_ ?_
         ·(intro w hSw; (try dsimp only at hSw); go_simp; all_goals (try with_reducible rfl))
         (try simp only [Act.put, List.setIfInBounds_toArray, List.set_cons_zero, List.set_cons_succ])
         refine wpAnyH_done (by kernel_rfl) ?_ _
         go_wp2
         go_roundw
         case rel => exact ⟨i + 1, _, by go_num, by omega, rfl, Lib.hid (.inr ⟨by omega, (by rw [show permOf (keyP l) (i + 1) = P1 from HP1.out]; exact que_base (xs := P1.map vi) (by rw [HNX.out]; simpa [vi, List.map_take, List.map_drop] using Q11) hbo.size)⟩), below_all hbo BZ9⟩
         case measure => simp [intOf]; omega
       ·go_simp
        have hba : Below Z.heap.size Z (Z.alloc (.cells #[.int .i64 i] 3)) := (Below.refl _ _).alloc (Nat.le_refl _) _
        have BZ10 := below_all BZ hba
        have G6 := Blk.new Z 3 #[.int .i64 i]
        refine hK.out _ _ trivial (fun hHeld => ?_)
        clear hK K hba
        (try simp only [Act.put, List.setIfInBounds_toArray, List.set_cons_zero, List.set_cons_succ])
        generalize Z.alloc (.cells #[.int .i64 i] 3) = Z10 at *
        generalize Z.heap.size = g6 at *
        (try simp only [Act.put, List.setIfInBounds_toArray, List.set_cons_zero, List.set_cons_succ])
        refine wpAnyH_ready (rs := [0]) (by kernel_rfl) (by simp) ?_
        refine AllReadyH.cons rfl (fun K hK => ?_) AllReadyH.nil
        go_simp
        have hne6 : g6 ≠ Z10.heap.size := by have := G6.lt; omega
        have hba : Below Z10.heap.size Z10 (Z10.alloc (.cells #[] 3)) := (Below.refl _ _).alloc (Nat.le_refl _) _
        have BZ11 := below_all BZ10 hba
        have G6 := G6.keep hba G6.lt
        have Q0 := Que.of_blk (base := wo.heap.size) (xs := []) (Blk.new Z10 3 #[]) BZ10.size (by simp [maxLen])
        refine hK.out _ _ trivial (fun hHeld => ?_)
        clear hK K hba
        (try simp only [Act.put, List.setIfInBounds_toArray, List.set_cons_zero, List.set_cons_succ])
        generalize Z10.alloc (.cells #[] 3) = Z11 at *
        generalize Z10.heap.size = g0 at *
        (try simp only [Act.put, List.setIfInBounds_toArray, List.set_cons_zero, List.set_cons_succ])
        refine wpAnyH_ready (rs := [4]) (by kernel_rfl) (by simp) ?_
        refine AllReadyH.cons rfl (fun K hK => ?_) AllReadyH.nil
        refine step_que_appends _ (.inl rfl) _ _ 22 (by rfl) wo.heap.size 3 i0 (.int .i64 0) 8 Tryz.underlying22 hi0 hz0 hz1 hz2 rfl (.slice (some ⟨g0, 0, none⟩) 0 0) [] (by simp [Act.eval]) Q0 (.slice (some od) m co) m ((P.map vi).take m) (by simp [Act.eval]) (src_sl Tryz.underlying22 (sl_take (hSl5.keep BZ11) hmo) HON1.out) (by simp [maxLen] <;> omega) (by simp <;> omega) BZ11.size ?_
        intro v4 Z12 Q4 hg _
        have BZ12 := BZ11.grown hg BZ11.size (fun q hq => by
         obtain ⟨_, h1, h2, _⟩ := Q0.blk
         have h3 := h1.symm.trans hq
         injection h3 with h3
         omega)
        have G6 := G6.grown hg (by simpa [Value.ownBlock] using hne6)
        (try change K (Act.put _ (some 28) v4) Z12)
        refine hK.out _ _ trivial (fun hHeld => ?_)
        clear hK K hg
        (try simp only [Act.put, List.setIfInBounds_toArray, List.set_cons_zero, List.set_cons_succ])
        refine wpAnyH_ready (rs := [7]) (by kernel_rfl) (by simp) ?_
        refine AllReadyH.cons rfl (fun K hK => ?_) AllReadyH.nil
        refine step_que_appends _ (.inl rfl) _ _ 22 (by rfl) wo.heap.size 3 i0 (.int .i64 0) 8 Tryz.underlying22 hi0 hz0 hz1 hz2 rfl v4 ([] ++ ((P.map vi).take m)) (by simp [Act.eval]) Q4 (.slice (some ⟨g6, 0, none⟩) 1 1) 1 [.int .i64 i] (by simp [Act.eval]) (src_sl Tryz.underlying22 (Gp.sl_one1 G6) (by simp [Value.oneCell'])) (by simp [maxLen] <;> omega) (by simp <;> omega) BZ12.size ?_
        intro v7 Z13 Q7 hg _
        have BZ13 := BZ12.grown hg BZ12.size (fun q hq => by
         obtain ⟨_, h1, h2, _⟩ := Q4.blk
         have h3 := h1.symm.trans hq
         injection h3 with h3
         omega)
        (try change K (Act.put _ (some 31) v7) Z13)
        refine hK.out _ _ trivial (fun hHeld => ?_)
        clear hK K hg
        (try simp only [Act.put, List.setIfInBounds_toArray, List.set_cons_zero, List.set_cons_succ])
        refine wpAnyH_ready (rs := [11]) (by kernel_rfl) (by simp) ?_
        refine AllReadyH.cons rfl (fun K hK => ?_) AllReadyH.nil
        refine step_que_appends _ (.inl rfl) _ _ 22 (by rfl) wo.heap.size 3 i0 (.int .i64 0) 8 Tryz.underlying22 hi0 hz0 hz1 hz2 rfl v7 ([] ++ ((P.map vi).take m) ++ [.int .i64 i]) (by simp [Act.eval]) Q7 (.slice (some (od.add m)) (i - m) (co - m)) (i - m) ((P.map vi).drop m) (by simp [Act.eval]) (src_sl Tryz.underlying22 (sl_drop (hSl5.keep BZ13) hmo) HON2.out) (by simp [maxLen] <;> omega) (by simp <;> omega) BZ13.size ?_
        intro v11 Z14 Q11 hg _
        have BZ14 := BZ13.grown hg BZ13.size (fun q hq => by
         obtain ⟨_, h1, h2, _⟩ := Q7.blk
         have h3 := h1.symm.trans hq
         injection h3 with h3
         omega)
        (try change K (Act.put _ (some 35) v11) Z14)
        refine hK.out _ _ trivial (fun hHeld => ?_)
        clear hK K hg
        (try simp only [Act.put, List.setIfInBounds_toArray, List.set_cons_zero, List.set_cons_succ])
        refine wpAnyH_get 12 (some 5) (v11) rfl rfl (by kernel_rfl) (by kernel_rfl) (by kernel_rfl) (fun _ _ _ h => h) (by rfl) hHeld ?_ ?_
        ·(intro w hSw; (try dsimp only at hSw); go_simp; all_goals (try with_reducible rfl))
        (try simp only [Act.put, List.setIfInBounds_toArray, List.set_cons_zero, List.set_cons_succ])
        refine wpAnyH_done (by kernel_rfl) ?_ _
        go_wp2
        go_roundw
        case rel => exact ⟨i + 1, _, by go_num, by omega, rfl, Lib.hid (.inr ⟨by omega, (by rw [show permOf (keyP l) (i + 1) = P1 from HP1.out]; exact que_base (xs := P1.map vi) (by rw [HNX.out]; simpa [vi, List.map_take, List.map_drop] using Q11) hbo.size)⟩), below_all hbo BZ14⟩
        case measure => simp [intOf]; omega
   ·obtain rfl : i = n := by omega
    have dk : decide ((i : Int) < (i : Int)) = false := by simp
    rcases HV.out with ⟨h0, hv⟩ | ⟨h0, hq⟩
    ·subst hv
     subst h0
     go_wp2
     go_ret
     exact ⟨none, ⟨0, rfl⟩, Sl.nil _ _ _, hba⟩
    ·obtain ⟨od, co, hv, hSl, _⟩ := hq.sl
     subst hv
     have hpl := (HPM.out i).1
     rw [List.length_map] at hSl
     have HF : Hid (Ints wa (some od) (permOf (keyP l) i)) := Lib.hid hSl
     have hlm : ((permOf (keyP l) i).map vi).length = i := by rw [List.length_map, hpl]
     rw [hlm]
     clear hSl hq h0 hpl hlm
     go_wp2
     go_ret
     exact ⟨some od, co, rfl, HF.out, hba⟩
end Go.Proofs.Tg.Bk
end
