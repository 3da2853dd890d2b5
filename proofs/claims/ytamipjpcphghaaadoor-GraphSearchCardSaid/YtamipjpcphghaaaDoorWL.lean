/- slices.Compare at []int, and slices.SortFunc at a few slices. -/
import Derived.Test.YtamipjpcphghaaaDoorWK
import Derived.Test.YtamipjpcphghaaaDoorSort
namespace Go.Proofs.Tg
open Go.RowKit Go.Gr
set_option maxHeartbeats 1000000
set_option maxRecDepth 100000
theorem compare_any (A B : Option Addr) (c d : Nat) (l m : List Int) (w : World) (hA : Ints w A l) (hB : Ints w B m) (hl : l.length ≤ 1000000) :
    Calls Tryd.prog 56 #[.slice A l.length c, .slice B m.length d] w fun e w' => e = .returned (.int .i64 (cmpL l m)) ∧ w = w' := by
  go_enter Tryd.func56, Tryd.ntmps56
  go_wp2
  go_loop [11] (fun i => ∃ k : Nat, i = .int .i64 k ∧ k ≤ l.length ∧ k ≤ m.length ∧ Hid (cmpL l m = cmpL (l.drop k) (m.drop k))) (fun i => l.length - (intOf i).toNat)
  case atStart => exact ⟨0, rfl, Nat.zero_le _, Nat.zero_le _, Lib.hid rfl⟩
  case round =>
    obtain ⟨k, rfl, hk1, hk2, HC⟩ := hrel
    by_cases hkl : k < l.length
    · obtain ⟨ad, rfl, hc⟩ := Ints.at hA hkl
      have HL : Hid (l.drop k = l[k] :: l.drop (k + 1)) := Lib.hid (List.drop_eq_getElem_cons hkl)
      generalize l[k] = x at hc HL
      by_cases hkm : k < m.length
      · obtain ⟨bd, rfl, hd⟩ := Ints.at hB hkm
        have HM : Hid (m.drop k = m[k] :: m.drop (k + 1)) := Lib.hid (List.drop_eq_getElem_cons hkm)
        generalize m[k] = y at hd HM
        have dm : decide ((m.length : Int) ≤ (k : Int)) = false := by simp; omega
        have hce : cmpL l m = if cmpI x y = 0 then cmpL (l.drop (k + 1)) (m.drop (k + 1)) else cmpI x y := by
          rw [HC.out, HL.out, HM.out, cmpL]
          unfold cmpI
          by_cases h1 : x < y
          · simp [h1]
          · by_cases h2 : y < x <;> simp [h1, h2]
        have HE := Lib.hid hce
        clear hce HC HL HM
        have hcc := cmp_any x y w
        generalize cmpI x y = z at HE hcc
        have HQ := Lib.hid hcc
        clear hcc
        by_cases hz : z = 0
        · have hzb : (z != 0) = false := by simp [hz]
          have HZ := Lib.hid hz
          clear hz
          go_wp2_with (go_at_call 73; refine HQ.out.mono ?_; rintro e w' ⟨rfl, rfl⟩)
          go_round
          case rel => exact ⟨k + 1, by go_num, by omega, by omega, Lib.hid (by rw [HE.out, if_pos HZ.out])⟩
          case measure => simp [intOf]; omega
        · have hzb : (z != 0) = true := by simp [hz]
          have HZ := Lib.hid hz
          clear hz
          go_wp2_with (go_at_call 73; refine HQ.out.mono ?_; rintro e w' ⟨rfl, rfl⟩)
          go_ret
          exact ⟨by rw [HE.out, if_neg HZ.out]; rfl, rfl⟩
      · have dm : decide ((m.length : Int) ≤ (k : Int)) = true := by simp; omega
        have HE : Hid (cmpL l m = 1) := Lib.hid (by rw [HC.out, HL.out, show m.drop k = [] from List.drop_of_length_le (by omega)]; rfl)
        clear HC HL
        go_wp2
        go_ret
        exact ⟨by rw [HE.out]; rfl, rfl⟩
    · obtain rfl : k = l.length := by omega
      by_cases hlm : l.length < m.length
      · have dm : decide ((l.length : Int) < (m.length : Int)) = true := by simp; omega
        have HE : Hid (cmpL l m = -1) := Lib.hid (by rw [HC.out, List.drop_length, List.drop_eq_getElem_cons hlm]; rfl)
        clear HC
        go_wp2
        go_ret
        exact ⟨by rw [HE.out]; rfl, rfl⟩
      · have dm : decide ((l.length : Int) < (m.length : Int)) = false := by simp; omega
        have HE : Hid (cmpL l m = 0) := Lib.hid (by rw [HC.out, List.drop_length, show m.drop l.length = [] from List.drop_of_length_le (by omega)]; rfl)
        clear HC
        go_wp2
        go_ret
        exact ⟨by rw [HE.out]; rfl, rfl⟩
theorem len_any (n : Nat) (w : World) (hn : n ≤ 12) : Calls Tryd.prog 88 #[.int .u64 n] w fun e w' => (∃ l : Int, e = .returned (.int .i64 l)) ∧ w = w' := by
  have d1 : decide ((4294967296 : Int) ≤ (n : Int)) = false := by simp; omega
  have d2 : decide ((65536 : Int) ≤ (n : Int)) = false := by simp; omega
  have d3 : decide ((256 : Int) ≤ (n : Int)) = false := by simp; omega
  go_enter Tryd.func88, Tryd.ntmps88
  go_wp2
  go_ret
  exact ⟨⟨_, rfl⟩, rfl⟩
theorem bitsLen_any (n : Nat) (w : World) (hn : n ≤ 12) : Calls Tryd.prog 72 #[.int .u64 n] w fun e w' => (∃ l : Int, e = .returned (.int .i64 l)) ∧ w = w' := by
  have hw := wrap_nat n (by omega)
  go_enter Tryd.func72, Tryd.ntmps72
  go_wp2_with (go_at_call 88; refine (len_any _ _ hn).mono ?_; rintro e w' ⟨⟨l, rfl⟩, rfl⟩)
  go_ret
  exact ⟨⟨_, rfl⟩, rfl⟩
/-- The values of slices that lie in a row: by a number for each. -/
def enc (F : Nat → Option Addr × Nat) (ls : Nat → List Int) (i : Nat) : Value := .slice (F i).1 (ls i).length (F i).2
def rarr (F : Nat → Option Addr × Nat) (ls : Nat → List Int) (l : List Nat) (rest : List Value) : Array Value := (l.map (enc F ls) ++ rest).toArray
theorem rarr_at (F : Nat → Option Addr × Nat) (ls : Nat → List Int) (l : List Nat) (rest : List Value) {k : Nat} (hk : k < l.length) : (rarr F ls l rest)[k]? = some (enc F ls (l.getD k 0)) := by
  rw [rarr, List.getElem?_toArray, List.getElem?_append_left (by simpa using hk), List.getElem?_map, List.getD_eq_getElem?_getD, List.getElem?_eq_getElem hk]; rfl
theorem rarr_set (F : Nat → Option Addr × Nat) (ls : Nat → List Int) (l : List Nat) (rest : List Value) {k : Nat} (hk : k < l.length) (i : Nat) : (rarr F ls l rest).setIfInBounds k (enc F ls i) = rarr F ls (l.set k i) rest := by
  simp only [rarr, List.setIfInBounds_toArray, List.map_set]
  rw [List.set_append_left _ _ (by simpa using hk)]
/-- The rows can be read in every world that has turned in the one block alone. -/
def RowsOk (w : World) (g : Nat) (F : Nat → Option Addr × Nat) (ls : Nat → List Int) : Prop := ∀ w', w.grownBy w' (some g) → ∀ i, Ints w' (F i).1 (ls i) ∧ (ls i).length ≤ 1000000
def RetSorted (g : Nat) (F : Nat → Option Addr × Nat) (ls : Nat → List Int) (l : List Nat) (rest : List Value) (w : World) (e : Ending) (w' : World) : Prop :=
  e = .returned (.tuple #[]) ∧ ∃ l', l'.Perm l ∧ sortedTo (fun i j => cmpL (ls i) (ls j)) l' l.length ∧ Blk w' g 40 (rarr F ls l' rest) ∧ w.grownBy w' (some g)
theorem weakL (ls : Nat → List Int) : Weak (fun i j => cmpL (ls i) (ls j)) := ⟨fun _ _ => cmpL_asym _ _, fun _ _ _ => cmpL_trans _ _ _⟩
theorem insertion_any (g c : Nat) (F : Nat → Option Addr × Nat) (ls : Nat → List Int) (l : List Nat) (rest : List Value) (w : World) (hB : Blk w g 40 (rarr F ls l rest)) (hR : RowsOk w g F ls) (hn : l.length ≤ 12) :
    Calls Tryd.prog 79 #[.slice (some ⟨g, 0, none⟩) l.length c, .int .i64 0, .int .i64 l.length, .func (.func 56) #[] #[]] w (RetSorted g F ls l rest w) := by
  have HW := Lib.hid (weakL ls)
  have HR := Lib.hid hR
  clear hR
  go_enter Tryd.func79, Tryd.ntmps79
  go_wp2
  go_loopw [8] (fun t wr => ∃ (i : Nat) (m : List Nat), t = .int .i64 i ∧ 1 ≤ i ∧ i ≤ l.length + 1 ∧ m.length = l.length ∧ Hid (m.Perm l) ∧ Hid (sortedTo (fun i j => cmpL (ls i) (ls j)) m i) ∧ Blk wr g 40 (rarr F ls m rest) ∧ w.grownBy wr (some g)) (fun t _ => l.length + 1 - (intOf t).toNat)
  case atStart => exact ⟨1, l, rfl, by omega, by omega, rfl, Lib.hid (List.Perm.refl _), Lib.hid (fun a b h1 h2 => by omega), hB, World.grownBy.refl _ _⟩
  case round =>
    clear hB
    obtain ⟨i, m, rfl, hi1, hi2, hml, HP, HS, hB, hg⟩ := hrel
    by_cases hil : i < l.length
    · have hib : decide ((i : Int) < (l.length : Int)) = true := by simp; omega
      have HB0 : Hid (sortedBut (fun i j => cmpL (ls i) (ls j)) m i i) := Lib.hid (sortedBut_start HS.out)
      have HML := Lib.hid hml
      clear HS hml
      go_wp2
      go_loopw [9] (fun t wr => ∃ (j : Nat) (q : List Nat), t = .int .i64 j ∧ j ≤ i ∧ Hid (q.length = l.length) ∧ Hid (q.Perm l) ∧ Hid (sortedBut (fun i j => cmpL (ls i) (ls j)) q i j) ∧ Blk wr g 40 (rarr F ls q rest) ∧ w.grownBy wr (some g)) (fun t _ => (intOf t).toNat)
      case atStart => exact ⟨i, m, rfl, Nat.le_refl _, HML, HP, HB0, hB, hg⟩
      case round =>
        clear hB hg HP HB0 HML
        obtain ⟨j, q, rfl, hj, HQL, HP, HS, hB, hg⟩ := hrel
        by_cases hj0 : j = 0
        · have dj : decide ((0 : Int) < (j : Int)) = false := by simp; omega
          have dj2 : decide (0 < j) = false := by simp; omega
          have HS2 : Hid (sortedTo (fun i j => cmpL (ls i) (ls j)) q (i + 1)) := Lib.hid (sortedBut_stop HW.out HS.out (.inl hj0))
          clear HS hj0
          go_wp2
          go_quiet (fail)
          go_wp2
          go_roundw
          case rel => exact ⟨i + 1, q, by go_num, by omega, by omega, HQL.out, HP, HS2, hB, grown_drewN hg _⟩
          case measure => simp [intOf]; omega
        · have dj : decide ((0 : Int) < (j : Int)) = true := by simp; omega
          have dj2 : decide (0 < j) = true := by simp; omega
          have cj := (hB.cell j).trans (rarr_at F ls q rest (by rw [HQL.out]; omega))
          have cp := (hB.cell (j - 1)).trans (rarr_at F ls q rest (k := j - 1) (by rw [HQL.out]; omega))
          unfold enc at cj cp
          obtain ⟨r1, r1'⟩ := HR.out wr hg (q.getD j 0)
          obtain ⟨r2, _⟩ := HR.out wr hg (q.getD (j - 1) 0)
          have hcc := fun W hW => (compare_any _ _ (F (q.getD j 0)).2 (F (q.getD (j - 1) 0)).2 (ls (q.getD j 0)) (ls (q.getD (j - 1) 0)) W (HR.out W hW (q.getD j 0)).1 (HR.out W hW (q.getD (j - 1) 0)).1 r1').mono
            (R' := fun e w' => e = .returned (.int .i64 (cmpL (ls (q.getD j 0)) (ls (q.getD (j - 1) 0)))) ∧ w' = W) fun _ _ h => ⟨h.1, h.2.symm⟩
          have HC := Lib.hid hcc
          clear hcc r1 r2 r1'
          have k2 : (1 : Int) ≤ (j : Int) := by omega
          have k1 : (j : Int) - 1 < (l.length : Int) := by omega
          have k0 : (j : Int) < (l.length : Int) := by omega
          have k00 : (0 : Int) ≤ (j : Int) := by omega
          have k3 : ((j : Int) - 1).toNat = j - 1 := by omega
          have k4 : IntKind.i64.wrap ((j : Int) - 1) = (j : Int) - 1 := IntWalk.i64_in _ (by omega)
          have HJ := Lib.hid hj0
          clear hj0
          by_cases hz : cmpL (ls (q.getD j 0)) (ls (q.getD (j - 1) 0)) < 0
          · have HS2 : Hid (sortedBut (fun i j => cmpL (ls i) (ls j)) (swp q j) i (j - 1)) := Lib.hid (sortedBut_swap HW.out HS.out (by omega) hj (by rw [HQL.out]; exact hil) hz)
            have hz2 : decide (cmpL (ls (q.getD j 0)) (ls (q.getD (j - 1) 0)) < 0) = true := by simpa using hz
            have HP2 : Hid ((swp q j).Perm l) := Lib.hid ((swp_perm (by omega) (by rw [HQL.out]; omega)).trans HP.out)
            have B1 : Blk ((wr.setCell ⟨g, j, none⟩ (enc F ls (q.getD (j - 1) 0))).setCell ⟨g, j - 1, none⟩ (enc F ls (q.getD j 0))) g 40 (rarr F ls (swp q j) rest) := by
              have := (hB.set j (enc F ls (q.getD (j - 1) 0))).set (j - 1) (enc F ls (q.getD j 0))
              rw [rarr_set F ls q rest (by rw [HQL.out]; omega), rarr_set F ls _ rest (by rw [List.length_set, HQL.out]; omega)] at this
              exact this
            have HB1 := Lib.hid B1
            have fj := hB.frozen j
            have fp := hB.frozen (j - 1)
            unfold enc at HB1
            clear HS HP B1
            generalize cmpL (ls (q.getD j 0)) (ls (q.getD (j - 1) 0)) = z at HC hz hz2
            go_wp2
            go_quiet ((go_at_call 56; exact Calls.quiet_of_same (HC.out _ (by exact grown_drewN hg _))))
            go_wp2
            go_region
            go_wp2
            go_roundw
            case rel =>
              have hq : ((j - 1 : Nat) : Int) = (j : Int) - 1 := by omega
              refine ⟨j - 1, swp q j, by rw [hq], by omega, Lib.hid (by rw [swp_len]; exact HQL.out), HP2, HS2, ?_, ?_⟩
              · exact HB1.out
              · exact grown_set (grown_set (grown_drewN hg _) j _) (j - 1) _
            case measure => simp [intOf]; omega
          · have HS2 : Hid (sortedTo (fun i j => cmpL (ls i) (ls j)) q (i + 1)) := Lib.hid (sortedBut_stop HW.out HS.out (.inr hz))
            have hz2 : decide (cmpL (ls (q.getD j 0)) (ls (q.getD (j - 1) 0)) < 0) = false := by simpa using hz
            clear HS
            generalize cmpL (ls (q.getD j 0)) (ls (q.getD (j - 1) 0)) = z at HC hz hz2
            go_wp2
            go_quiet ((go_at_call 56; exact Calls.quiet_of_same (HC.out _ (by exact grown_drewN hg _))))
            go_wp2
            go_roundw
            case rel => exact ⟨i + 1, q, by go_num, by omega, by omega, HQL.out, HP, HS2, hB, grown_drewN hg _⟩
            case measure => simp [intOf]; omega
    · have hib : decide ((i : Int) < (l.length : Int)) = false := by simp; omega
      have HML := Lib.hid hml
      clear hml
      go_wp2
      go_end0
      exact ⟨rfl, m, HP.out, fun a b h1 h2 => HS.out a b h1 (by omega), hB, hg⟩
theorem pdq_any (g c : Nat) (lim : Int) (F : Nat → Option Addr × Nat) (ls : Nat → List Int) (l : List Nat) (rest : List Value) (w : World) (hB : Blk w g 40 (rarr F ls l rest)) (hR : RowsOk w g F ls) (hn : l.length ≤ 12) :
    Calls Tryd.prog 71 #[.slice (some ⟨g, 0, none⟩) l.length c, .int .i64 0, .int .i64 l.length, .int .i64 lim, .func (.func 56) #[] #[]] w (RetSorted g F ls l rest w) := by
  have hd : decide ((l.length : Int) ≤ 12) = true := by simp; omega
  have HI := Lib.hid (insertion_any g c F ls l rest w hB hR hn)
  clear hB hR
  go_enter Tryd.func71, Tryd.ntmps71
  go_wp2
  refine wp_loop_rounds 1 ?_
  rw [rounds_succ]
  go_wp2_with (go_at_call 79; refine HI.out.mono ?_; rintro e w1 ⟨rfl, hw1⟩; have HW1 := Lib.hid hw1; clear hw1)
  (try simp only [Exit.inBlock, Exit.then])
  refine bodyPost_ret (results_none rfl _ _ _) rfl ?_
  exact ⟨rfl, HW1.out⟩
theorem sort_any (g c : Nat) (F : Nat → Option Addr × Nat) (ls : Nat → List Int) (l : List Nat) (rest : List Value) (w : World) (hB : Blk w g 40 (rarr F ls l rest)) (hR : RowsOk w g F ls) (hn : l.length ≤ 12) :
    Calls Tryd.prog 55 #[.slice (some ⟨g, 0, none⟩) l.length c, .func (.func 56) #[] #[]] w (RetSorted g F ls l rest w) := by
  have hw := wrap_nat l.length (by omega)
  have HI := Lib.hid (fun lim => pdq_any g c lim F ls l rest w hB hR hn)
  clear hB hR
  go_enter Tryd.func55, Tryd.ntmps55
  go_wp2_with (first
    | (go_at_call 72; refine (bitsLen_any _ _ hn).mono ?_; rintro e w' ⟨⟨z, rfl⟩, rfl⟩)
    | (go_at_call 71; refine (HI.out _).mono ?_; rintro e w1 ⟨rfl, hw1⟩; have HW1 := Lib.hid hw1; clear hw1))
  go_end0
  exact ⟨rfl, HW1.out⟩
end Go.Proofs.Tg
