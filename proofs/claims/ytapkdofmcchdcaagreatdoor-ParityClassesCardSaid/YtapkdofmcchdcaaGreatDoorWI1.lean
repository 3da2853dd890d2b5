/- Walks: digits as one word. -/
import Derived.Test.YtapkdofmcchdcaaGreatDoorWS2
import Derived.OwnWalk
namespace Go.Proofs.Tg
open Go.RowKit Go.Qn
set_option maxHeartbeats 1000000
set_option maxRecDepth 100000
/-- The words of a number below 2^64. -/
def wds (m : Nat) : List Nat := if m = 0 then [] else [m]
theorem psimple_nil (w : World) : Calls Tryz.prog 224 #[.string ByteArray.empty] w fun e w' => e = .returned (.slice none 0 0) ∧ w = w' := by
  go_enter Tryz.func224, Tryz.ntmps224
  go_wp2
  refine wp_loop_rounds 1 ?_
  rw [rounds_succ]
  go_wp2
  go_ret
  exact ⟨rfl, rfl⟩
theorem conv_bytes (w : World) (s : ByteArray) : ∃ c w1, (convert 9 102 (.string s)).run Tryz.prog w = .ok (.slice (some ⟨w.heap.size, 0, none⟩) s.size c) w1 ∧
    (∀ k (hk : k < s.size), w1.cell? ⟨w.heap.size, k, none⟩ = some (.int .u8 (s[k].toNat : Int))) ∧ Below w.heap.size w w1 := by
  refine ⟨_, _, run_bytes_of_string w _ _ 5 s Tryz.underlying9 Tryz.underlying102 Tryz.underlying5, fun k hk => ?_, ?_⟩
  · have := World.cell?_alloc_mark w.drew (bytesRow s (grownCap w s.size 0 5)) 5 ((bytesRow s (grownCap w s.size 0 5)).size, (bytesRow s (grownCap w s.size 0 5)).size + 1) k
    refine Eq.trans this ?_
    exact bytesRow_at s _ k hk
  · exact (Below.drew (Below.refl _ _)).alloc (Nat.le_refl _) _
theorem info121 : (Tryz.prog.info? 121).map (fun i => (i.zero, i.size, i.bytes)) = some (some (.int .u64 0), 1, 8) := by kernel_rfl
theorem val_take (l : List UInt8) (k : Nat) (hk : k < l.length) : val (l.take (k + 1)) = 10 * val (l.take k) + (l[k].toNat - 48) := by
  rw [List.take_succ_eq_append_getElem hk, val_snoc]
theorem pow_19 {k : Nat} (h : k ≤ 19) : 10 ^ k ≤ 10000000000000000000 := by
  have : 10 ^ k ≤ 10 ^ 19 := Nat.pow_le_pow_right (by omega) h
  exact Nat.le_trans this (by decide)
set_option maxHeartbeats 2000000 in
theorem psimple_any (s : ByteArray) (w : World) (h0 : 0 < s.size) (hs : s.size ≤ 19) (hd : ∀ c ∈ s.data.toList, isD c = true) :
    Calls Tryz.prog 224 #[.string s] w (RetSl (wds (val s.data.toList)).length 1 ((wds (val s.data.toList)).map vs) w) := by
  have HD := Lib.hid hd
  clear hd
  obtain ⟨c, w1, hrun, hcell, hb1⟩ := conv_bytes w s
  have HC := Lib.hid hcell
  have HL := Lib.hid (len_size s)
  clear hcell
  have hz := hb1.size
  have m1 : ((s.size : Int) - 1) % 19 = (s.size : Int) - 1 := by omega
  obtain ⟨i0, hi, hz0, hz1, hz2⟩ := info_parts info121
  go_enter Tryz.func224, Tryz.ntmps224
  go_wp2
  refine wp_loop_rounds 2 ?_
  rw [rounds_succ]
  go_wp2
  go_loop [5, 6, 25] (fun ch ba i => ∃ k : Nat, k ≤ s.size ∧ i = .int .i64 k ∧ ∃ v p : Nat, ch = .int .u64 v ∧ ba = .int .u64 p ∧ Hid (v = val (s.data.toList.take k) ∧ p = 10 ^ k ∧ v < 10 ^ k)) (fun _ _ i => s.size - (intOf i).toNat)
  case atStart => exact ⟨0, Nat.zero_le _, rfl, 0, 1, rfl, rfl, Lib.hid ⟨rfl, rfl, by decide⟩⟩
  case round =>
    obtain ⟨k, hk, rfl, v, p, rfl, rfl, HV⟩ := hrel
    by_cases hlt : k < s.size
    · have hc := HC.out k hlt
      have hlt' : k < s.data.toList.length := by rw [HL.out]; exact hlt
      have hD := HD.out s.data.toList[k] (List.getElem_mem _)
      obtain ⟨d1, d2⟩ := isD_int hD
      have HX : Hid (val (s.data.toList.take (k + 1)) = 10 * v + (s[k].toNat - 48)) := Lib.hid (by rw [val_take _ _ hlt', HV.out.1]; rfl)
      have hv : v < 1000000000000000000 := Nat.lt_of_lt_of_le HV.out.2.2 (by
        have : 10 ^ k ≤ 10 ^ 18 := Nat.pow_le_pow_right (by omega) (by omega)
        exact Nat.le_trans this (by decide))
      have hp : p ≤ 1000000000000000000 := by
        rw [HV.out.2.1]
        have : 10 ^ k ≤ 10 ^ 18 := Nat.pow_le_pow_right (by omega) (by omega)
        exact Nat.le_trans this (by decide)
      have e1 : (48 : Int) ≤ (s[k].toNat : Int) := d1
      have e2 : (s[k].toNat : Int) ≤ 57 := d2
      clear d1 d2 hD
      go_wp2
      go_round
      case rel =>
        have h1 := HX.out
        have h2 := HV.out
        refine ⟨k + 1, by omega, by go_num, 10 * v + (s[k].toNat - 48), p * 10, by go_num, by go_num, Lib.hid ⟨h1.symm, by rw [h2.2.1, Nat.pow_succ], ?_⟩⟩
        rw [Nat.pow_succ]; omega
      case measure => simp [intOf]; omega
    · obtain rfl : k = s.size := by omega
      have hvv : v = val s.data.toList := by rw [HV.out.1, List.take_of_length_le (by rw [HL.out]; omega)]
      have hlt : v < 18446744073709551616 := Nat.lt_of_lt_of_le HV.out.2.2 (Nat.le_trans (pow_19 hs) (by decide))
      have HVV := Lib.hid hvv
      clear hvv
      have dd : decide (s.size < s.size) = false := by simp
      have q2 : (0 : Int) ≤ (s.size : Int) := by omega
      have q3 : ((s.size : Int)).toNat = s.size := by omega
      go_wp2
      refine wp_loop_rounds 1 ?_
      rw [rounds_succ]
      by_cases hv0 : v = 0
      · subst hv0
        have hb0 : (((0 : Nat) : Int) != 0) = false := by decide
        go_wp2
        rw [rounds_succ]
        go_wp2
        go_ret
        rw [← HVV.out]
        exact ⟨none, 0, rfl, Nat.le_refl _, Sl.nil _ _ _, hb1⟩
      · have hvp : 0 < v := by omega
        have hb0 : ((v : Int) != 0) = true := by simp; omega
        clear hv0
        go_wp2_with (at_builtin; refine wpList_append_own _ rfl _ _ 209 rfl w.heap.size 121 i0 (.int .u64 0) 1 8 Tryz.underlying209 hi hz0 hz1 hz2 rfl (by decide) (.slice none 0 0) 0 [] rfl (World.ownsRow_nil _ _ _ _) ⟨w1.heap.size, 0, none⟩ 1 1 [.int .u64 v] rfl rfl ?c1 ?c2 ?c3 ?c4 ?c5 ?_
                     case c1 => exact cell_one_new _ _ _
                     case c2 => simp [Value.oneCell']
                     case c3 => simp only [maxLen]; omega
                     case c4 => omega
                     case c5 => simp; omega
                     intro v' w2 hown' hgrow _)
        rw [rounds_succ]
        go_wp2
        go_ret
        obtain ⟨A, c2, hv, hc2, hS⟩ := Sl.of_own hown'
        have hb2 : Below w.heap.size w w2 := (hb1.alloc hb1.size _).grown hgrow (by simp; omega) (fun k hk => by simp [Value.ownBlock] at hk)
        have hw : wds (val s.data.toList) = [v] := by rw [← HVV.out]; unfold wds; rw [if_neg (by omega)]
        rw [hw]
        exact ⟨A, c2, by show Ending.returned v' = _; rw [hv]; rfl, hc2, by simpa [vs] using hS, hb2⟩
theorem psimple (s : ByteArray) (w : World) (hs : s.size ≤ 19) (hd : ∀ c ∈ s.data.toList, isD c = true) :
    Calls Tryz.prog 224 #[.string s] w (RetSl (wds (val s.data.toList)).length 1 ((wds (val s.data.toList)).map vs) w) := by
  by_cases h0 : s.size = 0
  · have e : s = ByteArray.empty := by
      rw [← bs_self s, List.eq_nil_of_length_eq_zero (l := s.data.toList) (by rw [len_size]; exact h0)]; rfl
    subst e
    exact (psimple_nil w).mono fun e w' ⟨h1, h2⟩ => by subst h2; exact ⟨none, 0, h1, Nat.le_refl _, Sl.nil _ _ _, Below.refl _ _⟩
  · exact psimple_any s w (by omega) hs hd
theorem psplit (s : ByteArray) (w : World) (hs : s.size ≤ 19) (hd : ∀ c ∈ s.data.toList, isD c = true) :
    Calls Tryz.prog 201 #[.string s, .slice none 0 0] w (RetSl (wds (val s.data.toList)).length 1 ((wds (val s.data.toList)).map vs) w) := by
  have HD := Lib.hid hd
  clear hd
  go_enter Tryz.func201, Tryz.ntmps201
  go_wp2
  refine wp_loop_rounds 1 ?_
  rw [rounds_succ]
  go_wp2_with (go_at_call 224; refine (psimple _ _ hs HD.out).mono ?_; rintro e w' ⟨A, c, rfl, h1, h2, h3⟩)
  go_ret
  exact ⟨A, c, rfl, h1, h2, h3⟩
theorem pwords (s : ByteArray) (w : World) (hs : s.size ≤ 19) (hd : ∀ c ∈ s.data.toList, isD c = true) :
    Calls Tryz.prog 183 #[.string s] w (RetSl (wds (val s.data.toList)).length 1 ((wds (val s.data.toList)).map vs) w) := by
  have HD := Lib.hid hd
  clear hd
  go_enter Tryz.func183, Tryz.ntmps183
  go_wp2_with (go_at_call 201; refine (psplit _ _ hs HD.out).mono ?_; rintro e w' ⟨A, c, rfl, h1, h2, h3⟩)
  go_ret
  exact ⟨A, c, rfl, h1, h2, h3⟩
/-- An integer of one word that a call returns. -/
def RetInt (neg : Bool) (m : Nat) (w : World) (e : Ending) (w' : World) : Prop :=
  ∃ A c, e = .returned (.agg #[.bool neg, .slice A (wds m).length c]) ∧ Sets w' A (wds m) ∧ Below w.heap.size w w'
theorem parse_any (s : ByteArray) (w : World) (hs : s.size ≤ 19) (hd : ∀ c ∈ s.data.toList, isD c = true) :
    Calls Tryz.prog 163 #[.string s] w (RetInt false (val s.data.toList) w) := by
  have HD := Lib.hid hd
  clear hd
  have hbA : Below w.heap.size w (w.alloc (.cells #[.bool false, .slice none 0 0] 211)) := (Below.refl _ _).alloc (Nat.le_refl _) _
  go_enter Tryz.func163, Tryz.ntmps163
  go_wp2_with (go_at_call 183; refine (pwords _ _ hs HD.out).mono ?_; rintro e w1 ⟨A, c, rfl, h1, h2, h3⟩
               have c0 := keep_cell h3 (Blk.cell (Blk.new w 211 #[.bool false, .slice none 0 0]) 0)
               have c1 := keep_cell h3 (Blk.cell (Blk.new w 211 #[.bool false, .slice none 0 0]) 1)
               have f0 := ((Blk.new w 211 #[.bool false, .slice none 0 0]).keep h3 (by simp)).frozen 0
               have f1 := ((Blk.new w 211 #[.bool false, .slice none 0 0]).keep h3 (by simp)).frozen 1)
  refine bodyPost_ret (v := .agg #[.bool false, .slice A (wds (val s.data.toList)).length c]) (by simp [results, Tryz.results163, go_sem, c0, c1]) rfl ⟨A, c, rfl, ?_, ?_⟩
  · have h4 := Sl.put h2 c0 (by simp [vs]) (.bool false)
    exact Sl.put h4 (v := .slice none 0 0) (by rw [World.cell?_setCell_other _ _ _ _ (by simp)]; exact c1) (by simp [vs]) _
  · exact (((hbA.trans (h3.mono (by simp))).setCell (by simp) _).setCell (by simp) _)
end Go.Proofs.Tg
