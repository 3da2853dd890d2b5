/- Tree where it refuses; SmallLists; the statement GraphTree, walked. -/
import Derived.Test.YtamipjpcphghaaaDoorXF
namespace Go.Proofs.Tg
open Go.RowKit Go.Gr
set_option maxHeartbeats 1000000
set_option maxRecDepth 100000
theorem tree_limit (V : Option Addr) (c : Nat) (ls : List (List Int)) (w : World) (hl : 64 < ls.length) :
    Calls Tryd.prog 22 #[.slice V ls.length c] w fun e w' => e = .returned (.tuple #[.slice none 0 0, .int .i64 2]) ∧ w = w' := by
  have hd : decide ((64 : Int) < (ls.length : Int)) = true := by simp; omega
  go_enter Tryd.func22, Tryd.ntmps22
  go_wp2
  go_ret2
  exact ⟨rfl, rfl⟩
theorem rtree_limit (V : Option Addr) (c : Nat) (ls : List (List Int)) (w : World) (hl : 64 < ls.length) :
    Calls Tryd.prog 23 #[.slice V ls.length c] w fun e w' => e = .returned (.tuple #[.slice none 0 0, .int .i64 2]) ∧ w = w' := by
  have hd : decide ((64 : Int) < (ls.length : Int)) = true := by simp; omega
  go_enter Tryd.func23, Tryd.ntmps23
  go_wp2
  go_ret2
  exact ⟨rfl, rfl⟩
theorem tree_bad (V : Option Addr) (c : Nat) (ls : List (List Int)) (w : World) (hV : Lists w V ls) (hl : ls.length ≤ 64) (hll : ∀ l ∈ ls, l.length ≤ 1000000) (hv : ¬ goodLs ls) :
    Calls Tryd.prog 22 #[.slice V ls.length c] w fun e w' => e = .returned (.tuple #[.slice none 0 0, .int .i64 1]) ∧ Below w.heap.size w w' := by
  have hd : decide ((64 : Int) < (ls.length : Int)) = false := by simp; omega
  have HV := Lib.hid (And.intro hll hv)
  clear hll hv
  go_enter Tryd.func22, Tryd.ntmps22
  go_upto_region 3 with fail
  go_cut [4, 5] (fun a b wx => ∃ g4 g5 : Nat, a = .slice (some ⟨g4, 0, none⟩) ls.length ls.length ∧ b = .slice (some ⟨g5, 0, none⟩) ls.length ls.length ∧ Blk wx g4 54 (sarr (List.replicate ls.length 0)) ∧ Blk wx g5 3 (iarr (List.replicate ls.length 0)) ∧
      w.heap.size ≤ g4 ∧ w.heap.size ≤ g5 ∧ Below w.heap.size w wx)
  case first =>
    have m1 := fun W => make_sets ls.length (by omega) W
    have m2 := fun W => make_ints ls.length ls.length (Nat.le_refl _) (by omega) W
    simp only [sarr_made] at m1
    simp only [iarr_made] at m2
    go_region
    all_goals (go_wp2_with fail; go_meet)
    · refine ⟨w.heap.size, w.heap.size + 1, rfl, rfl, ?_, ?_, by omega, by omega, ?_⟩
      · exact Blk.drew ((Blk.new w 54 (sarr (List.replicate ls.length 0))).alloc _)
      · have := Blk.new (w.alloc (.cells (sarr (List.replicate ls.length 0)) 54)) 3 (iarr (List.replicate ls.length 0))
        exact Blk.drew (by simpa using this)
      · exact (((Below.refl _ _).alloc (Nat.le_refl _) _).alloc (by simp) _).drew
    · refine ⟨w.heap.size + 1, w.heap.size, rfl, rfl, ?_, ?_, by omega, by omega, ?_⟩
      · have := Blk.new (w.alloc (.cells (iarr (List.replicate ls.length 0)) 3)) 54 (sarr (List.replicate ls.length 0))
        exact Blk.drew (by simpa using this)
      · exact Blk.drew ((Blk.new w 3 (iarr (List.replicate ls.length 0))).alloc _)
      · exact (((Below.refl _ _).alloc (Nat.le_refl _) _).alloc (by simp) _).drew
  case rest =>
    obtain ⟨g4, g5, rfl, rfl, hS, hP, hg4, hg5, hb⟩ := hcut
    go_wp2
    go_loopw [28] (fun i wr => ∃ k : Nat, i = .int .i64 k ∧ k ≤ ls.length ∧ Hid (goodLs (ls.take k)) ∧ Blk wr g4 54 (sarr ((ls.take k).map setOf ++ List.replicate (ls.length - k) 0)) ∧ Blk wr g5 3 (iarr (List.replicate k (-1) ++ List.replicate (ls.length - k) 0)) ∧ Below w.heap.size w wr) (fun i _ => ls.length - (intOf i).toNat)
    case atStart => exact ⟨0, rfl, Nat.zero_le _, Lib.hid (by intro l h; simp at h), by simpa using hS, by simpa using hP, hb⟩
    case round =>
      clear hS hP hb
      obtain ⟨k, rfl, hk, HG, hS, hP, hb⟩ := hrel
      by_cases hkl : k < ls.length
      · obtain ⟨ad, A, cl, rfl, hc, hA⟩ := Lists.at (hV.keep hb) hkl
        have hm2 := HV.out.1 ls[k] (List.getElem_mem _)
        have HM : Hid (ls[k] ∈ ls) := Lib.hid (List.getElem_mem _)
        have HT0 : Hid (ls.take (k + 1) = ls.take k ++ [ls[k]]) := Lib.hid (List.take_succ_eq_append_getElem hkl)
        have HT : Hid ((ls.take (k + 1)).map setOf = (ls.take k).map setOf ++ [setOf ls[k]]) := Lib.hid (by rw [List.take_succ_eq_append_getElem hkl, List.map_append]; rfl)
        have hr := fun b => readSet_any A cl ls[k] b wr hA hm2
        generalize ls[k] = l at hc hA HT hr HM HT0
        have hlen1 : ((ls.take k).map setOf).length = k := by simp; omega
        have HL1 := Lib.hid hlen1
        have c4 := (hS.cell k).trans (mid_atS _ _ _ hlen1 (by omega))
        have f4 := hS.frozen k
        have c5 := (hP.cell k).trans (mid_atI (List.replicate k (-1)) _ _ _ (by simp) (by omega))
        have f5 := hP.frozen k
        have hne : g4 ≠ g5 := by
          rintro rfl
          unfold Blk at hS hP
          rw [hS] at hP
          injection hP with hP
          injection hP with _ h54
          exact absurd h54 (by decide)
        clear hlen1 hA hm2
        by_cases hg : 0 < l.length ∧ asc l
        · have HR := Lib.hid (hr true (by simp [hg]))
          have HG2 : Hid (goodLs (ls.take (k + 1))) := Lib.hid (by
            rw [HT0.out]
            intro l' hl'
            rcases List.mem_append.1 hl' with h | h
            · exact HG.out l' h
            · simp at h; subst h; exact hg)
          clear hr hg
          go_wp2_with (go_at_call 59; refine HR.out.mono ?_; rintro e w1 ⟨s, rfl, hs, rfl⟩; obtain rfl := hs rfl; clear hs)
          go_roundw
          case rel =>
            refine ⟨k + 1, by go_num, by omega, HG2, ?_, ?_, ((hb.setCell (by simpa using hg4) _).setCell (by simpa using hg5) _)⟩
            · have := hS.set k (.int .u64 (setOf l : Nat))
              rw [sarr_set, set_mid _ _ _ _ HL1.out (by omega), Nat.sub_sub, ← HT.out] at this
              exact this.far (by simpa using hne) _
            · have := (hP.far (p := ⟨g4, k, none⟩) (by simpa using fun e => hne e.symm) (.int .u64 (setOf l : Nat))).set k (.int .i64 (-1))
              rw [iarr_set, set_midI _ _ _ _ _ (by simp) (by omega), Nat.sub_sub, ← List.replicate_succ'] at this
              exact this
          case measure => simp [intOf]; omega
        · have HR := Lib.hid (hr false (by simp only [Bool.false_eq_true, false_iff]; exact hg))
          clear hr hg
          go_wp2_with (go_at_call 59; refine HR.out.mono ?_; rintro e w1 ⟨s, rfl, hs, rfl⟩; clear hs)
          go_ret2
          exact ⟨rfl, hb⟩
      · obtain rfl : k = ls.length := by omega
        exact absurd (by have := HG.out; rwa [List.take_length] at this) HV.out.2
theorem small_any (V : Option Addr) (c n m : Nat) (ls : List (List Int)) (b : Bool) (w : World) (hV : Lists w V ls) (hv : b = true ↔ ls.length ≤ n ∧ ∀ l ∈ ls, l.length ≤ m) (hn : n ≤ 1000) :
    Calls Tryd.prog 21 #[.slice V ls.length c, .int .i64 n, .int .i64 m] w fun e w' => e = .returned (.bool b) ∧ w = w' := by
  have HV := Lib.hid hv
  clear hv
  by_cases hl : ls.length ≤ n
  · have hd : decide ((n : Int) < (ls.length : Int)) = false := by simp; omega
    have hd' : decide (n < ls.length) = false := by simp; omega
    go_enter Tryd.func21, Tryd.ntmps21
    go_wp2
    go_loop [7] (fun i => ∃ k : Nat, i = .int .i64 k ∧ k ≤ ls.length ∧ Hid (∀ l ∈ ls.take k, l.length ≤ m)) (fun i => ls.length - (intOf i).toNat)
    case atStart => exact ⟨0, rfl, Nat.zero_le _, Lib.hid (by simp)⟩
    case round =>
      obtain ⟨k, rfl, hk, HG⟩ := hrel
      by_cases hkl : k < ls.length
      · obtain ⟨ad, A, cl, rfl, hc, hA⟩ := Lists.at hV hkl
        have HM : Hid (ls[k] ∈ ls) := Lib.hid (List.getElem_mem _)
        have HT0 : Hid (ls.take (k + 1) = ls.take k ++ [ls[k]]) := Lib.hid (List.take_succ_eq_append_getElem hkl)
        generalize ls[k] = l at hc hA HM HT0
        by_cases hm : l.length ≤ m
        · have hb1 : decide ((m : Int) < (l.length : Int)) = false := by simp; omega
          have hb1' : decide (m < l.length) = false := by simp; omega
          have HG2 : Hid (∀ l ∈ ls.take (k + 1), l.length ≤ m) := Lib.hid (by
            rw [HT0.out]
            intro l' hl'
            rcases List.mem_append.1 hl' with h | h
            · exact HG.out l' h
            · simp at h; subst h; exact hm)
          go_wp2
          go_round
          case rel => exact ⟨k + 1, by go_num, by omega, HG2⟩
          case measure => simp [intOf]; omega
        · have hb1 : decide ((m : Int) < (l.length : Int)) = true := by simp; omega
          have hb1' : decide (m < l.length) = true := by simp; omega
          obtain rfl : b = false := by
            cases b
            · rfl
            · exact absurd ((HV.out.1 rfl).2 l HM.out) hm
          go_wp2
          go_ret
          exact ⟨rfl, rfl⟩
      · obtain rfl : k = ls.length := by omega
        obtain rfl : b = true := HV.out.2 ⟨hl, by have := HG.out; rwa [List.take_length] at this⟩
        go_wp2
        go_ret
        exact ⟨rfl, rfl⟩
  · have hd : decide ((n : Int) < (ls.length : Int)) = true := by simp; omega
    have hd' : decide (n < ls.length) = true := by simp; omega
    obtain rfl : b = false := by
      cases b
      · rfl
      · exact absurd (HV.out.1 rfl).1 hl
    go_enter Tryd.func21, Tryd.ntmps21
    go_wp2
    go_ret
    exact ⟨rfl, rfl⟩
end Go.Proofs.Tg
