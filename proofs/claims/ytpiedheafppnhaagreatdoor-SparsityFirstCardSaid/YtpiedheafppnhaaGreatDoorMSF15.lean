/- Parts of the proof: NU5, NU6, NU7, NU12, NU8, NU9, NU10. -/
import Derived.Deep.Cut
import Derived.Deep.RegionHeld3
import Derived.Test.YtpiedheafppnhaaGreatDoorMSF1
import Derived.Test.YtpiedheafppnhaaGreatDoorMSF10
import Derived.Test.YtpiedheafppnhaaGreatDoorMSF14
section
/- The harness's numbers: numbers of one digit compared. -/
namespace Go.Proofs.Tg
open Go.RowKit Go.Gr
set_option maxHeartbeats 1000000
set_option maxRecDepth 100000
theorem cmp_one (A B : Option Addr) (c d a b : Nat) (w : World) (hA : Digs w A [a]) (hB : Digs w B [b]) :
    Calls Tryz.prog 81 #[.slice A 1 c, .slice B 1 d] w fun e w' => e = .returned (.int .i64 (if a < b then -1 else if a = b then 0 else 1)) ∧ Dr w w' := by
  obtain ⟨ad, rfl, ha⟩ := Digs.at hA (k := 0) (by simp)
  obtain ⟨bd, rfl, hb⟩ := Digs.at hB (k := 0) (by simp)
  have ha : w.cell? ad = some (.int .u32 (a : Nat)) := by simpa [Addr.add] using ha
  have hb : w.cell? bd = some (.int .u32 (b : Nat)) := by simpa [Addr.add] using hb
  clear hA hB
  by_cases h1 : a = b
  · subst h1
    have hn : ((a : Int) != (a : Int)) = false := by simp
    rw [if_neg (by omega), if_pos rfl]
    go_enter Tryz.func81, Tryz.ntmps81
    go_wp2
    refine wp_loop_rounds 2 ?_
    rw [rounds_succ]
    go_wp2
    go_quiet (fail)
    go_wp2
    rw [rounds_succ]
    go_wp2
    go_ret
    exact ⟨rfl, (Dr.refl _).drewN _⟩
  · have hn : ((a : Int) != (b : Int)) = true := by simp; omega
    by_cases h2 : a < b
    · rw [if_pos h2]
      have hl : decide ((a : Int) < (b : Int)) = true := by simp; omega
      have hl' : decide (a < b) = true := by simp; omega
      go_enter Tryz.func81, Tryz.ntmps81
      go_wp2
      refine wp_loop_rounds 2 ?_
      rw [rounds_succ]
      go_wp2
      go_quiet (fail)
      generalize hW : w.drewN _ = W
      have HW := Lib.hid hW
      have ha' : W.cell? ad = some (.int .u32 (a : Nat)) := by rw [← hW]; exact ha
      have hb' : W.cell? bd = some (.int .u32 (b : Nat)) := by rw [← hW]; exact hb
      clear hW
      go_wp2
      go_quiet (fail)
      go_wp2
      go_ret
      refine ⟨rfl, ?_⟩
      rw [← HW.out]
      exact ((Dr.refl _).drewN _).drewN _
    · rw [if_neg h2, if_neg h1]
      have hl : decide ((a : Int) < (b : Int)) = false := by simp; omega
      have hl' : decide (a < b) = false := by simp; omega
      go_enter Tryz.func81, Tryz.ntmps81
      go_wp2
      refine wp_loop_rounds 2 ?_
      rw [rounds_succ]
      go_wp2
      go_quiet (fail)
      generalize hW : w.drewN _ = W
      have HW := Lib.hid hW
      have ha' : W.cell? ad = some (.int .u32 (a : Nat)) := by rw [← hW]; exact ha
      have hb' : W.cell? bd = some (.int .u32 (b : Nat)) := by rw [← hW]; exact hb
      clear hW
      go_wp2
      go_quiet (fail)
      go_wp2
      go_ret
      refine ⟨rfl, ?_⟩
      rw [← HW.out]
      exact ((Dr.refl _).drewN _).drewN _
end Go.Proofs.Tg
end
section
/- The harness's numbers: how many bits a number of at most one digit has. -/
namespace Go.Proofs.Tg
open Go.RowKit Go.Gr
set_option maxHeartbeats 1000000
set_option maxRecDepth 100000
/-- The bits of v, counted by halving. -/
def blen (v : Nat) : Nat := if v = 0 then 0 else blen (v / 2) + 1
termination_by v
decreasing_by omega
theorem blen_zero : blen 0 = 0 := by unfold blen; simp
theorem blen_pos {v : Nat} (h : v ≠ 0) : blen v = blen (v / 2) + 1 := by rw [blen]; simp [h]
theorem blen_one {v : Nat} : blen v = 1 ↔ v = 1 := by
  by_cases h : v = 0
  · subst h; rw [blen_zero]
  · rw [blen_pos h]
    by_cases h2 : v / 2 = 0
    · rw [h2, blen_zero]; omega
    · rw [blen_pos h2]; omega
theorem blen_gt {v : Nat} : 1 < blen v ↔ 1 < v := by
  by_cases h : v = 0
  · subst h; rw [blen_zero]
  · rw [blen_pos h]
    by_cases h2 : v / 2 = 0
    · rw [h2, blen_zero]; omega
    · rw [blen_pos h2]; omega
theorem blen_le : ∀ (n v : Nat), v ≤ n → blen v ≤ v
  | 0, v, h => by
    obtain rfl : v = 0 := by omega
    rw [blen_zero]; exact Nat.le_refl _
  | n + 1, v, h => by
    by_cases h0 : v = 0
    · subst h0; rw [blen_zero]; exact Nat.le_refl _
    · rw [blen_pos h0]
      have := blen_le n (v / 2) (by omega)
      omega
theorem bits_one (b : Bool) (A : Option Addr) (c v : Nat) (w : World) (hA : Digs w A [v]) (hv : v < 4294967296) :
    Calls Tryz.prog 72 #[.agg #[.bool b, .slice A 1 c]] w fun e w' => e = .returned (.int .i64 (blen v : Nat)) ∧ Below w.heap.size w w' := by
  have hbA : Below w.heap.size w (w.alloc (.cells #[.bool b, .slice A 1 c] 46)) := (Below.refl _ _).alloc (Nat.le_refl _) _
  obtain ⟨ad, rfl, ha⟩ := Digs.at hA (k := 0) (by simp)
  have ha : w.cell? ad = some (.int .u32 (v : Nat)) := by simpa [Addr.add] using ha
  have hlt : ad.block < w.heap.size := World.block_lt_of_cell? w _ ha
  have hle := blen_le v v (Nat.le_refl _)
  obtain ⟨q, hq⟩ : ∃ q, blen v = q := ⟨_, rfl⟩
  rw [hq] at hle ⊢
  have HQ := Lib.hid hq
  clear hA hq
  go_enter Tryz.func72, Tryz.ntmps72
  go_wp2
  go_loop [3, 4] (fun s3 s4 => ∃ k x : Nat, s3 = .int .i64 k ∧ s4 = .int .u32 x ∧ x < 4294967296 ∧ k ≤ q ∧ Hid (k + blen x = q)) (fun _ s4 => (intOf s4).toNat)
  case atStart => exact ⟨0, v, rfl, rfl, hv, Nat.zero_le _, Lib.hid (by rw [HQ.out]; omega)⟩
  case round =>
    obtain ⟨k, x, rfl, rfl, hx, hk, HK⟩ := hrel
    by_cases h0 : x = 0
    · subst h0
      obtain rfl : k = q := by have := HK.out; rw [blen_zero] at this; omega
      go_wp2
      go_ret
      exact ⟨rfl, hbA⟩
    · have hd : decide ((0 : Int) < (x : Int)) = true := by simp; omega
      have hd' : decide (0 < x) = true := by simp; omega
      have HK2 : Hid (k + 1 + blen (x / 2) = q) := Lib.hid (by have := HK.out; rw [blen_pos h0] at this; omega)
      have hk1 : k + 1 ≤ q := by have := HK2.out; omega
      have hx2 : (x : Int).fdiv (2 ^ min (Int.toNat 1) IntKind.u32.bits) = ((x / 2 : Nat) : Int) := by
        have e : (2 : Int) ^ min (Int.toNat 1) IntKind.u32.bits = 2 := by decide
        rw [e, Int.fdiv_eq_ediv_of_nonneg _ (by omega)]; simp
      go_wp2
      go_round
      case rel => exact ⟨k + 1, x / 2, by go_num, by simp, by omega, hk1, HK2⟩
      case measure => simp [intOf]; omega
theorem bits_nil (b : Bool) (A : Option Addr) (c : Nat) (w : World) :
    Calls Tryz.prog 72 #[.agg #[.bool b, .slice A 0 c]] w fun e w' => e = .returned (.int .i64 0) ∧ Below w.heap.size w w' := by
  have hbA : Below w.heap.size w (w.alloc (.cells #[.bool b, .slice A 0 c] 46)) := (Below.refl _ _).alloc (Nat.le_refl _) _
  go_enter Tryz.func72, Tryz.ntmps72
  go_wp2
  go_ret
  exact ⟨rfl, hbA⟩
end Go.Proofs.Tg
end
section
/- The harness's numbers: divMag of numbers of one digit. -/
namespace Go.Proofs.Tg
open Go.RowKit Go.Gr
set_option maxHeartbeats 1000000
set_option maxRecDepth 100000
/-- The digits of a number below 2^32. -/
def mg (v : Nat) : List Nat := if v = 0 then [] else [v]
theorem mg_zero : mg 0 = [] := rfl
theorem mg_pos {v : Nat} (h : v ≠ 0) : mg v = [v] := if_neg h
theorem tzl_one (v : Nat) : tzl [v] 1 = (mg v).length := by
  by_cases h : v = 0
  · subst h; rfl
  · rw [mg_pos h]; simp [tzl, h]
theorem tzl_two (v : Nat) : tzl [v, 0] 2 = (mg v).length := by
  by_cases h : v = 0
  · subst h; rfl
  · rw [mg_pos h]; simp [tzl, h]
theorem digs_mg {w : World} {A : Option Addr} {v : Nat} {l : List Nat} (h : Digs w A (v :: l)) : Digs w A (mg v) := by
  by_cases hv : v = 0
  · subst hv; exact Digs.nil _ _
  · rw [mg_pos hv]
    have := h.take 1 (by simp)
    simpa using this
theorem digs_blk {w : World} {g : Nat} {v : Nat} (h : Blk w g 117 #[.int .u32 (v : Nat)]) : Digs w (some ⟨g, 0, none⟩) [v] :=
  digs_of (xs := [v]) h
def RetDiv (a b : Nat) (w : World) (e : Ending) (w' : World) : Prop :=
  ∃ Q cq R cr, e = .returned (.tuple #[.slice Q (mg (a / b)).length cq, .slice R (mg (a % b)).length cr]) ∧ Digs w' Q (mg (a / b)) ∧ Digs w' R (mg (a % b)) ∧ (mg (a / b)).length ≤ cq ∧ (mg (a % b)).length ≤ cr ∧ Below w.heap.size w w'
theorem div_ge (A B : Option Addr) (c d a b : Nat) (w : World) (hA : Digs w A [a]) (hB : Digs w B [b]) (ha : a < 4294967296) (hb0 : b ≠ 0) (hab : b ≤ a) :
    Calls Tryz.prog 80 #[.slice A 1 c, .slice B 1 d] w (RetDiv a b w) := by
  obtain ⟨z, hz⟩ : ∃ z : Int, (if a < b then (-1 : Int) else if a = b then 0 else 1) = z := ⟨_, rfl⟩
  have HC := Lib.hid (cmp_one A B c d a b w hA hB)
  rw [hz] at HC
  have hzb : decide (z < 0) = false := by
    rw [← hz, if_neg (by omega)]
    split <;> simp
  clear hz
  have HD := Lib.hid (fun W (h : Below w.heap.size w W) => sdiv_one A c a b W (hA.keep h) ha (by omega) (by omega))
  unfold RetDiv
  obtain ⟨q, hq⟩ : ∃ q, a / b = q := ⟨_, rfl⟩
  obtain ⟨r, hr⟩ : ∃ r, a % b = r := ⟨_, rfl⟩
  rw [hq, hr]
  rw [hq, hr] at HD
  clear hq hr
  go_enter Tryz.func80, Tryz.ntmps80
  go_wp2_with (fail)
  refine HC.out.mono ?_
  rintro e w1 ⟨rfl, hdr⟩
  have hb1 := hdr.below
  clear hdr
  obtain ⟨bd, rfl, hbd⟩ := Digs.at (hB.keep hb1) (k := 0) (by simp)
  have hbd : w1.cell? bd = some (.int .u32 (b : Nat)) := by simpa [Addr.add] using hbd
  go_wp2_with (fail)
  refine (HD.out _ hb1).mono ?_
  rintro e w2 ⟨rfl, B2, hb2⟩
  go_wp2_with (fail)
  have B3 := Blk.new w2 117 #[.int .u32 (r : Nat)]
  have hbA : Below w2.heap.size w2 (w2.alloc (.cells #[.int .u32 (r : Nat)] 117)) := (Below.refl _ _).alloc (Nat.le_refl _) _
  refine (trim_any (some ⟨w2.heap.size, 0, none⟩) 1 [r] _ (digs_blk B3) (by simp) (by simp)).mono ?_
  rintro e _ ⟨rfl, rfl⟩
  have hbq := below_all (below_all hb1 hb2) hbA
  have hQ := digs_mg (digs_blk (B2.keep hbA B2.lt))
  have hR := digs_mg (digs_blk B3)
  have hl : ∀ v, (mg v).length ≤ 1 := fun v => by by_cases h : v = 0; (subst h; simp [mg]); (rw [mg_pos h]; simp)
  have h1 := hl q
  have h2 := hl r
  have t1 := tzl_one q
  have t2 := tzl_one r
  rw [← t1] at h1
  rw [← t2] at h2
  have HT1 := Lib.hid t1
  have HT2 := Lib.hid t2
  clear hl t1 t2
  go_wp2
  go_ret2
  exact ⟨_, 1, _, 1, by rw [← HT1.out, ← HT2.out]; rfl, hQ, hR, by rw [← HT1.out]; exact h1, by rw [← HT2.out]; exact h2, hbq⟩
end Go.Proofs.Tg
end
section
/- The harness's numbers: decimal digits read. -/
namespace Go.Proofs.Tg
open Go.RowKit Go.Gr Go.Qn
set_option maxHeartbeats 2000000
set_option maxRecDepth 100000
theorem add_nil (A B : Option Addr) (c d : Nat) (w : World) :
    Calls Tryz.prog 78 #[.slice A 0 c, .slice B 0 d] w fun e w' => e = .returned (.slice (some ⟨w.heap.size, 0, none⟩) 0 1) ∧ Below w.heap.size w w' := by
  have hmk := fun W => make_digs1 W
  go_enter Tryz.func78, Tryz.ntmps78
  have hB2 := Blk.new w 117 #[.int .u32 0]
  have hbA : Below w.heap.size w (w.alloc (.cells #[.int .u32 0] 117)) := (Below.refl _ _).alloc (Nat.le_refl _) _
  have HT := Lib.hid (trim_any (some ⟨w.heap.size, 0, none⟩) 1 [0] _ (digs_blk (v := 0) hB2) (by simp) (by simp))
  clear hB2
  go_wp2
  refine wp_loop_rounds 1 ?_
  rw [rounds_succ]
  go_wp2_with (fail)
  refine HT.out.mono ?_
  rintro e _ ⟨rfl, rfl⟩
  go_wp2
  go_ret
  exact ⟨rfl, hbA⟩
/-- The number that one group of digits makes. -/
theorem add_mg (A : Option Addr) (c d g v : Nat) (w : World) (hB : Blk w g 117 #[.int .u32 (v : Nat)]) (hv : v < 4294967296) :
    Calls Tryz.prog 78 #[.slice A 0 c, .slice (some ⟨g, 0, none⟩) (tzl [v] 1) d] w fun e w' => ∃ ad cr, e = .returned (.slice (some ad) (mg v).length cr) ∧ Digs w' (some ad) (mg v) ∧ Below w.heap.size w w' := by
  rw [tzl_one]
  by_cases h0 : v = 0
  · subst h0
    exact (add_nil A _ c d w).mono fun e w' ⟨h1, h2⟩ => ⟨_, _, h1, Digs.nil _ _, h2⟩
  · rw [mg_pos h0]
    refine (add_one A c d g v w hB hv).mono fun e w' ⟨h1, h2, h3⟩ => ⟨⟨w.heap.size, 0, none⟩, 2, ?_, ?_, h3⟩
    · rw [h1, tzl_two, mg_pos h0]
    · refine digs_pre h2 (fun j u hu => ?_)
      match j with
      | 0 => simpa [vd] using hu
      | j + 1 => simp at hu
def RetFD (l : List UInt8) (w : World) (e : Ending) (w' : World) : Prop :=
  Below w.heap.size w w' ∧ ((numOk l = false ∧ ∃ n A c, e = .returned (.tuple #[.agg #[.bool false, .slice A n c], .bool false])) ∨
    (numOk l = true ∧ ∃ ad c, e = .returned (.tuple #[.agg #[.bool false, .slice (some ad) (mg (val l)).length c], .bool true]) ∧ Digs w' (some ad) (mg (val l))))
theorem fdig_nil (w : World) : Calls Tryz.prog 66 #[.string ByteArray.empty] w (RetFD [] w) := by
  have hbA : Below w.heap.size w (w.alloc (.cells #[.bool false, .slice none 0 0] 46)) := (Below.refl _ _).alloc (Nat.le_refl _) _
  have K2 := Blk.new w 46 #[.bool false, .slice none 0 0]
  have HM := Lib.hid (fun W => make1_any false none 0 0 W false rfl (by omega))
  go_enter Tryz.func66, Tryz.ntmps66
  go_wp2
  refine wp_loop_rounds 1 ?_
  rw [rounds_succ]
  go_wp2_with (go_at_call 58; refine (HM.out _).mono ?_; rintro e w2 ⟨rfl, hb2⟩
               have K3 := K2.keep hb2 K2.lt
               obtain ⟨j0, j1, j2, j3⟩ := K3.two)
  refine bodyPost_ret (v := .tuple #[.agg #[.bool false, .slice none 0 0], .bool false]) (by simp [results, Tryz.results66, go_sem, j0, j1]) rfl ⟨?_, .inl ⟨rfl, 0, none, 0, rfl⟩⟩
  exact ((below_all hbA hb2).setCell (by simp) _).setCell (by simp) _
theorem fdig_any (s : ByteArray) (w : World) (h0 : 0 < s.size) (hs : s.size ≤ 8) :
    Calls Tryz.prog 66 #[.string s] w (RetFD s.data.toList w) := by
  have HL := Lib.hid (len_size s)
  have hbA : Below w.heap.size w (w.alloc (.cells #[.bool false, .slice none 0 0] 46)) := (Below.refl _ _).alloc (Nat.le_refl _) _
  have K2 := Blk.new w 46 #[.bool false, .slice none 0 0]
  obtain ⟨a0, a1, a2, a3⟩ := K2.two
  go_enter Tryz.func66, Tryz.ntmps66
  go_wp2
  refine wp_loop_rounds 2 ?_
  rw [rounds_succ]
  go_wp2
  go_loop [5, 6, 7, 8] (fun i v f k => ∃ m x y : Nat, m ≤ s.size ∧ i = .int .i64 m ∧ k = .int .i64 m ∧ v = .int .u32 x ∧ f = .int .u32 y ∧ x < 100000000 ∧ y ≤ 100000000 ∧ Hid (x = val (s.data.toList.take m) ∧ y = 10 ^ m ∧ x < 10 ^ m ∧ ∀ c ∈ s.data.toList.take m, isD c = true)) (fun i _ _ _ => s.size - (intOf i).toNat)
  case atStart => exact ⟨0, 0, 1, Nat.zero_le _, rfl, rfl, rfl, rfl, by omega, by omega, Lib.hid ⟨rfl, rfl, by decide, by simp⟩⟩
  case round =>
    obtain ⟨m, x, y, hm, rfl, rfl, rfl, rfl, hx8, hy8, HV⟩ := hrel
    by_cases hlt : m < s.size
    · have hlt' : m < s.data.toList.length := by rw [HL.out]; exact hlt
      have HX : Hid (val (s.data.toList.take (m + 1)) = 10 * val (s.data.toList.take m) + (s[m].toNat - 48)) := Lib.hid (val_take _ _ hlt')
      have HT : Hid (s.data.toList.take (m + 1) = s.data.toList.take m ++ [s[m]]) := Lib.hid (List.take_succ_eq_append_getElem hlt')
      have HMEM : Hid (s[m] ∈ s.data.toList) := Lib.hid (List.getElem_mem hlt')
      have hb7 : 10 ^ m ≤ 10000000 := by
        have : 10 ^ m ≤ 10 ^ 7 := Nat.pow_le_pow_right (by omega) (by omega)
        exact Nat.le_trans this (by decide)
      have hx7 : x < 10000000 := Nat.lt_of_lt_of_le HV.out.2.2.1 hb7
      have hy7 : y ≤ 10000000 := by rw [HV.out.2.1]; exact hb7
      clear hb7
      have h9 : decide ((m : Int) < 9) = true := by simp; omega
      by_cases hD : isD s[m] = true
      · obtain ⟨d1, d2⟩ := isD_int hD
        have e1 : (48 : Int) ≤ (s[m].toNat : Int) := d1
        have e2 : (s[m].toNat : Int) ≤ 57 := d2
        have HDD := Lib.hid hD
        have g1 : decide ((s[m].toNat : Int) < 48) = false := by simp; omega
        have g2 : decide ((57 : Int) < (s[m].toNat : Int)) = false := by simp; omega
        clear d1 d2 hD
        go_wp2
        go_round
        case rel =>
          have h1 := HX.out
          have h2 := HV.out
          rw [← h2.1] at h1
          refine ⟨m + 1, 10 * x + (s[m].toNat - 48), y * 10, by omega, by go_num, by go_num, by go_num, by go_num, by omega, by omega, Lib.hid ⟨h1.symm, by rw [h2.2.1, Nat.pow_succ], ?_, ?_⟩⟩
          · rw [Nat.pow_succ]; omega
          · rw [HT.out]
            intro c hc
            rcases List.mem_append.1 hc with h | h
            · exact h2.2.2.2 c h
            · simp at h; subst h; exact HDD.out
        case measure => simp [intOf]; omega
      · have hno : Hid (numOk s.data.toList = false) := Lib.hid (by
          apply eq_false_of_ne_true
          rw [numOk_iff]
          exact fun h => hD (h.1 _ HMEM.out))
        by_cases hl : s[m].toNat < 48
        · have g1 : decide ((s[m].toNat : Int) < 48) = true := by simp; omega
          clear hD
          go_wp2
          refine bodyPost_ret (v := .tuple #[.agg #[.bool false, .slice none 0 0], .bool false]) (by simp [results, Tryz.results66, go_sem, a0, a1]) rfl ⟨?_, .inl ⟨hno.out, 0, none, 0, rfl⟩⟩
          first | exact hbA | exact (hbA.setCell (by simp) _).setCell (by simp) _
        · have g1 : decide ((s[m].toNat : Int) < 48) = false := by simp; omega
          have g2 : decide ((57 : Int) < (s[m].toNat : Int)) = true := by
            simp
            rw [isD_iff] at hD
            omega
          clear hD hl
          go_wp2
          refine bodyPost_ret (v := .tuple #[.agg #[.bool false, .slice none 0 0], .bool false]) (by simp [results, Tryz.results66, go_sem, a0, a1]) rfl ⟨?_, .inl ⟨hno.out, 0, none, 0, rfl⟩⟩
          first | exact hbA | exact (hbA.setCell (by simp) _).setCell (by simp) _
    · obtain rfl : m = s.size := by omega
      have HXV : Hid (x = val s.data.toList) := Lib.hid (by rw [HV.out.1, List.take_of_length_le (by rw [HL.out]; omega)])
      have hok : Hid (numOk s.data.toList = true) := Lib.hid (by
        rw [numOk_iff]
        have h := HV.out.2.2.2
        rw [List.take_of_length_le (by rw [HL.out]; omega)] at h
        exact ⟨h, fun e => by have := HL.out; rw [e] at this; simp at this; omega⟩)
      have dd : decide (s.size < s.size) = false := by simp
      have h9 : decide ((s.size : Int) < 9) = true := by simp; omega
      have HT1 := Lib.hid (fun W g (h : Blk W g 117 #[.int .u32 (x : Nat)]) => trim_any (some ⟨g, 0, none⟩) 1 [x] W (digs_blk h) (by simp) (by simp))
      have HAM := Lib.hid (fun W g (h : Blk W g 117 #[.int .u32 (x : Nat)]) => add_mg none 0 1 g x W h (by omega))
      have HM := Lib.hid (fun W ad c => make1_any false (some ad) (mg x).length c W false rfl (by by_cases e : x = 0; (subst e; simp [mg]); (rw [mg_pos e]; simp)))
      go_wp2_with (fail)
      refine (mul_nil _ _ _ _ _ _).mono ?_
      rintro e _ ⟨rfl, rfl⟩
      have BX : Blk (((w.alloc (.cells #[.bool false, .slice none 0 0] 46)).alloc (.cells #[.int .u32 (y : Nat)] 117)).alloc (.cells #[.int .u32 (x : Nat)] 117)) (w.heap.size + 1 + 1) 117 #[.int .u32 (x : Nat)] := by
        have := Blk.new ((w.alloc (.cells #[.bool false, .slice none 0 0] 46)).alloc (.cells #[.int .u32 (y : Nat)] 117)) 117 #[.int .u32 (x : Nat)]
        simpa using this
      have hbX : Below w.heap.size w (((w.alloc (.cells #[.bool false, .slice none 0 0] 46)).alloc (.cells #[.int .u32 (y : Nat)] 117)).alloc (.cells #[.int .u32 (x : Nat)] 117)) := (hbA.alloc (by simp) _).alloc (by simp; omega) _
      have KX := (K2.alloc (.cells #[.int .u32 (y : Nat)] 117)).alloc (.cells #[.int .u32 (x : Nat)] 117)
      go_wp2_with (fail)
      refine (HT1.out _ _ BX).mono ?_
      rintro e _ ⟨rfl, rfl⟩
      go_wp2_with (fail)
      refine (HAM.out _ _ BX).mono ?_
      rintro e w2 ⟨ad, cr, rfl, hD, hb2⟩
      have KY := KX.keep hb2 KX.lt
      have hbY := below_all hbX hb2
      clear BX KX hbX hb2 HAM HT1
      go_wp2_with (fail)
      rw [rounds_succ]
      go_wp2_with (fail)
      refine (HM.out _ ad cr).mono ?_
      rintro e w3 ⟨rfl, hb3⟩
      have K3 := KY.keep hb3 KY.lt
      obtain ⟨j0, j1, j2, j3⟩ := K3.two
      have hne : s.toList.isEmpty = false := by
        rw [Lib.toList_data]
        cases h : s.data.toList with
        | nil => have h2 := HL.out; rw [h] at h2; simp at h2; omega
        | cons _ _ => rfl
      go_wp2_with (fail)
      refine bodyPost_ret (v := .tuple #[.agg #[.bool false, .slice (some ad) (mg x).length cr], .bool true]) (by simp [results, Tryz.results66, go_sem, j0, j1]) rfl ⟨?_, .inr ⟨hok.out, ad, cr, by rw [← HXV.out], ?_⟩⟩
      · exact ((below_all hbY hb3).setCell (by simp) _).setCell (by simp) _
      · rw [← HXV.out]
        have h1 := hD.keep hb3
        have h4 := Digs.put h1 j0 (by simp [vd]) (.bool false)
        exact Digs.put h4 (v := .slice none 0 0) (by rw [World.cell?_setCell_other _ _ _ _ (by simp)]; exact j1) (by simp [vd]) _
theorem fdigs_any (s : ByteArray) (w : World) (hs : s.size ≤ 8) :
    Calls Tryz.prog 66 #[.string s] w (RetFD s.data.toList w) := by
  by_cases h0 : s.size = 0
  · have e : s = ByteArray.empty := by
      rw [← bs_self s, List.eq_nil_of_length_eq_zero (l := s.data.toList) (by rw [len_size]; exact h0)]; rfl
    subst e
    exact fdig_nil w
  · exact fdig_any s w (by omega) hs
end Go.Proofs.Tg
end
section
/- The harness's numbers: divMag where the first is the lesser. -/
namespace Go.Proofs.Tg
open Go.RowKit Go.Gr
set_option maxHeartbeats 1000000
set_option maxRecDepth 100000
theorem div_lt (A B : Option Addr) (c d a b : Nat) (w : World) (hA : Digs w A [a]) (hB : Digs w B [b]) (ha0 : a ≠ 0) (hab : a < b) :
    Calls Tryz.prog 80 #[.slice A 1 c, .slice B 1 d] w (RetDiv a b w) := by
  have HC := Lib.hid (cmp_one A B c d a b w hA hB)
  rw [if_pos hab] at HC
  unfold RetDiv
  rw [Nat.div_eq_of_lt hab, Nat.mod_eq_of_lt hab, mg_zero, mg_pos ha0]
  obtain ⟨i0, hi, hz0, hz1, hz2⟩ := info_parts dig_info
  go_enter Tryz.func80, Tryz.ntmps80
  go_wp2_with (fail)
  refine HC.out.mono ?_
  rintro e w1 ⟨rfl, hdr⟩
  have hb1 := hdr.below
  clear hdr
  obtain ⟨ad, rfl, had⟩ := Digs.at (hA.keep hb1) (k := 0) (by simp)
  have had : w1.cell? ad = some (.int .u32 (a : Nat)) := by simpa [Addr.add] using had
  have hnew : ∀ j u, [Value.int .u32 (a : Nat)][j]? = some u → (w1.alloc (.cells #[] 117)).cell? (ad.add j) = some u := by
    intro j u hu
    match j with
    | 0 =>
      have e : u = .int .u32 (a : Nat) := by simpa using hu.symm
      subst e
      exact cell_alloc had _
    | j + 1 => simp at hu
  have HN := Lib.hid hnew
  clear hnew hA hB
  go_wp2_with (at_builtin; refine wpList_append_own _ rfl _ _ 44 rfl w1.heap.size 117 i0 (.int .u32 0) 1 4 Tryz.underlying44 hi hz0 hz1 hz2 rfl (by decide) (.slice (some ⟨w1.heap.size, 0, none⟩) 0 0) 0 [] rfl (World.ownsRow_made w1 #[] 0 (Nat.le_refl _) (by simp [maxLen]) rfl) ad 1 c [.int .u32 a] rfl rfl HN.out ?c2 ?c3 ?c4 ?c5 ?_
               case c2 => simp [Value.oneCell']
               case c3 => simp only [maxLen]; omega
               case c4 => omega
               case c5 => simp
               intro v' w2 hown' hgrow _)
  obtain ⟨R, cr, hv, hcr, hS⟩ := Sl.of_own hown'
  subst hv
  have hb2 : Below w1.heap.size w1 w2 := ((Below.refl _ _).alloc (Nat.le_refl _) _).grown hgrow (by simp) (fun k hk => by simp [Value.ownBlock] at hk; omega)
  go_ret2
  exact ⟨none, 0, R, cr, rfl, Digs.nil _ _, digs_own (xs := [a]) hown' rfl, by simp, by simpa using hcr, below_all hb1 hb2⟩
theorem cmp_nil (A B : Option Addr) (c d : Nat) (w : World) : Calls Tryz.prog 81 #[.slice A 0 c, .slice B 1 d] w fun e w' => e = .returned (.int .i64 (-1)) ∧ w = w' := by
  go_enter Tryz.func81, Tryz.ntmps81
  go_wp2
  go_ret
  exact ⟨rfl, rfl⟩
theorem div_nil (ad : Addr) (B : Option Addr) (c d b : Nat) (w : World) :
    Calls Tryz.prog 80 #[.slice (some ad) 0 c, .slice B 1 d] w (RetDiv 0 b w) := by
  have HC := Lib.hid (cmp_nil (some ad) B c d w)
  have HF : Hid (∀ w2 R cr, Below w.heap.size w w2 → RetDiv 0 b w (.returned (.tuple #[.slice none 0 0, .slice R 0 cr])) w2) := Lib.hid (fun w2 R cr hb => by
    unfold RetDiv
    rw [Nat.zero_div, Nat.zero_mod, mg_zero]
    exact ⟨none, 0, R, cr, rfl, Digs.nil _ _, Digs.nil _ _, by simp, by simp, hb⟩)
  obtain ⟨i0, hi, hz0, hz1, hz2⟩ := info_parts dig_info
  go_enter Tryz.func80, Tryz.ntmps80
  go_wp2_with (fail)
  refine HC.out.mono ?_
  rintro e _ ⟨rfl, rfl⟩
  go_wp2_with (at_builtin; refine wpList_append_own _ rfl _ _ 44 rfl w.heap.size 117 i0 (.int .u32 0) 1 4 Tryz.underlying44 hi hz0 hz1 hz2 rfl (by decide) (.slice (some ⟨w.heap.size, 0, none⟩) 0 0) 0 [] rfl (World.ownsRow_made w #[] 0 (Nat.le_refl _) (by simp [maxLen]) rfl) ad 0 c [] rfl rfl (fun j u hu => by simp at hu) ?c2 ?c3 ?c4 ?c5 ?_
               case c2 => simp [Value.oneCell']
               case c3 => simp only [maxLen]; omega
               case c4 => omega
               case c5 => simp
               intro v' w2 hown' hgrow _)
  obtain ⟨R, cr, hv, hcr, hS⟩ := Sl.of_own hown'
  subst hv
  have hb2 : Below w.heap.size w w2 := ((Below.refl _ _).alloc (Nat.le_refl _) _).grown hgrow (by simp) (fun k hk => by simp [Value.ownBlock] at hk; omega)
  go_ret2
  exact HF.out w2 R cr hb2
end Go.Proofs.Tg
end
section
/- The harness's numbers: the greatest common divisor. -/
namespace Go.Proofs.Tg
open Go.RowKit Go.Gr
set_option maxHeartbeats 1000000
set_option maxRecDepth 100000
/-- divMag of numbers of at most one digit. -/
theorem div_any (A B : Option Addr) (c d a b : Nat) (w : World) (hA : Digs w A (mg a)) (hB : Digs w B (mg b)) (ha : a < 4294967296) (hb : b ≠ 0) (hs : a ≠ 0 ∨ ∃ ad, A = some ad) :
    Calls Tryz.prog 80 #[.slice A (mg a).length c, .slice B (mg b).length d] w (RetDiv a b w) := by
  rw [mg_pos hb] at hB ⊢
  by_cases h0 : a = 0
  · subst h0
    obtain ⟨ad, rfl⟩ : ∃ ad, A = some ad := by
      rcases hs with h | h
      · exact absurd rfl h
      · exact h
    exact div_nil ad B c d b w
  · rw [mg_pos h0] at hA ⊢
    by_cases hab : a < b
    · exact div_lt A B c d a b w hA hB h0 hab
    · exact div_ge A B c d a b w hA hB ha hb (by omega)
def ymes (s : Value) (w : World) : Nat := match s with
  | .slice (some ad) n _ => if n = 0 then 0 else match w.cell? ad with
    | some (.int _ x) => x.toNat
    | _ => 0
  | _ => 0
theorem ymes_eq {w : World} {Y : Option Addr} {y c : Nat} (h : Digs w Y (mg y)) : ymes (.slice Y (mg y).length c) w = y := by
  by_cases h0 : y = 0
  · subst h0; rw [mg_zero]; cases Y <;> simp [ymes]
  · rw [mg_pos h0] at h ⊢
    obtain ⟨ad, rfl, hc⟩ := Digs.at h (k := 0) (by simp)
    have hc : w.cell? ad = some (.int .u32 (y : Nat)) := by simpa [Addr.add] using hc
    simp [ymes, hc]
def RetGcd (g : Nat) (w : World) (e : Ending) (w' : World) : Prop :=
  ∃ G cg, e = .returned (.agg #[.bool false, .slice G (mg g).length cg]) ∧ Digs w' G (mg g) ∧ Below w.heap.size w w'
theorem ngcd_any (p q : Bool) (A B : Option Addr) (c d a b : Nat) (w : World) (hA : Digs w A (mg a)) (hB : Digs w B (mg b)) (ha : a < 4294967296) (hb : b < 4294967296) (hs : a ≠ 0 ∨ ∃ ad, A = some ad) :
    Calls Tryz.prog 71 #[.agg #[.bool p, .slice A (mg a).length c], .agg #[.bool q, .slice B (mg b).length d]] w (RetGcd (Nat.gcd a b) w) := by
  obtain ⟨g, hg⟩ : ∃ g, Nat.gcd a b = g := ⟨_, rfl⟩
  rw [hg]
  have HG := Lib.hid ((Nat.gcd_comm b a).trans hg)
  obtain ⟨na, hna⟩ : ∃ na, (mg a).length = na := ⟨_, rfl⟩
  obtain ⟨nb, hnb⟩ : ∃ nb, (mg b).length = nb := ⟨_, rfl⟩
  rw [hna, hnb]
  have HNA := Lib.hid hna
  have HNB := Lib.hid hnb
  have HS := Lib.hid hs
  clear hg hna hnb hs
  obtain ⟨W, hW⟩ : ∃ W, ((w.alloc (.cells #[.bool p, .slice A na c] 46)).alloc (.cells #[.bool q, .slice B nb d] 46)).alloc (.cells #[.bool false, .slice none 0 0] 46) = W := ⟨_, rfl⟩
  have B0 : Blk W w.heap.size 46 #[.bool p, .slice A na c] := by rw [← hW]; exact ((Blk.new _ _ _).alloc _).alloc _
  have B1 : Blk W (w.heap.size + 1) 46 #[.bool q, .slice B nb d] := by
    rw [← hW]; have := (Blk.new (w.alloc (.cells #[.bool p, .slice A na c] 46)) 46 #[.bool q, .slice B nb d]).alloc (.cells #[.bool false, .slice none 0 0] 46)
    simpa using this
  have B2 : Blk W (w.heap.size + 1 + 1) 46 #[.bool false, .slice none 0 0] := by
    rw [← hW]; have := (Blk.new ((w.alloc (.cells #[.bool p, .slice A na c] 46)).alloc (.cells #[.bool q, .slice B nb d] 46)) 46 #[.bool false, .slice none 0 0])
    simpa using this
  have hbW : Below w.heap.size w W := by rw [← hW]; exact (((Below.refl _ _).alloc (Nat.le_refl _) _).alloc (by simp) _).alloc (by simp; omega) _
  have hWs : W.heap.size = w.heap.size + 3 := by rw [← hW]; simp
  have HX : Hid (Digs W A (mg a)) := Lib.hid (hA.keep hbW)
  have HY : Hid (Digs W B (mg b)) := Lib.hid (hB.keep hbW)
  obtain ⟨a0, a1, _, _⟩ := B0.two
  obtain ⟨b0, b1, _, _⟩ := B1.two
  go_enter Tryz.func71, Tryz.ntmps71
  go_upto_region 1 with (fail)
  clear hW hA hB
  go_quiet (fail)
  go_wp2
  go_loopw [5, 6] (fun s5 s6 wr => ∃ (x y nx ny : Nat) (X : Option Addr) (cx : Nat) (Y : Option Addr) (cy : Nat), s5 = .slice X nx cx ∧ s6 = .slice Y ny cy ∧ x < 4294967296 ∧ y < 4294967296 ∧ Hid (nx = (mg x).length) ∧ Hid (ny = (mg y).length) ∧ Hid (Digs wr X (mg x)) ∧ Hid (Digs wr Y (mg y)) ∧ Hid (x ≠ 0 ∨ ∃ ad, X = some ad) ∧ Hid (Nat.gcd y x = g) ∧ Below W.heap.size W wr) (fun _ s6 wr => ymes s6 wr)
  case atStart => exact ⟨a, b, na, nb, A, c, B, d, rfl, rfl, ha, hb, Lib.hid HNA.out.symm, Lib.hid HNB.out.symm, Lib.hid (HX.out.keep (below_drewN (Below.refl _ _) _)), Lib.hid (HY.out.keep (below_drewN (Below.refl _ _) _)), HS, HG, below_drewN (Below.refl _ _) _⟩
  case round =>
    obtain ⟨wo, rfl⟩ : ∃ wo : World, wo = wr := ⟨_, rfl⟩
    obtain ⟨x, y, nx, ny, X, cx, Y, cy, rfl, rfl, hx, hy, HNX, HNY, HXD, HYD, HXS, HGG, hbr⟩ := hrel
    by_cases hy0 : y = 0
    · subst hy0
      obtain rfl : ny = 0 := HNY.out
      obtain rfl : x = g := by have := HGG.out; rwa [Nat.gcd_zero_left] at this
      have K2 := B2.keep hbr (by omega)
      have hnx : nx ≤ 1000000 := by rw [HNX.out]; by_cases e : x = 0; (subst e; simp [mg]); (rw [mg_pos e]; simp)
      obtain ⟨k0, k1, k2, k3⟩ := K2.two
      have HM := Lib.hid (make1_any false X nx cx wo false rfl hnx)
      have HBR := Lib.hid hbr
      go_wp2_with (go_at_call 58; refine HM.out.mono ?_; rintro e w2 ⟨rfl, hb2⟩
                   have K3 := K2.keep hb2 K2.lt
                   obtain ⟨j0, j1, j2, j3⟩ := K3.two)
      have hlt3 := K3.lt
      refine bodyPost_ret (v := .agg #[.bool false, .slice X nx cx]) (by simp [results, Tryz.results71, go_sem, j0, j1]) rfl ⟨X, cx, by rw [HNX.out], ?_, ?_⟩
      · have h1 := HXD.out.keep hb2
        have h4 := Digs.put h1 j0 (by simp [vd]) (.bool false)
        exact Digs.put h4 (v := .slice none 0 0) (by rw [World.cell?_setCell_other _ _ _ _ (by simp)]; exact j1) (by simp [vd]) _
      · have h1 := below_all (below_all hbW hbr) hb2
        exact (h1.setCell (by simp; omega) _).setCell (by simp; omega) _
    · have hny := HNY.out
      rw [mg_pos hy0] at hny
      obtain rfl : ny = 1 := hny
      have HD := Lib.hid (div_any X Y cx cy x y wo HXD.out HYD.out hx hy0 HXS.out)
      rw [← HNX.out, mg_pos hy0] at HD
      unfold RetDiv at HD
      have hml : x % y < y := Nat.mod_lt _ (by omega)
      have HN : Hid (Nat.gcd (x % y) y = g) := Lib.hid (by rw [← Nat.gcd_rec]; exact HGG.out)
      have HY0 := Lib.hid hy0
      have HM := Lib.hid (ymes_eq (c := cy) HYD.out)
      generalize x % y = r at *
      generalize x / y = qq at *
      clear hy0
      go_wp2_with (go_at_call 80; refine HD.out.mono ?_; rintro e w2 ⟨Q, cq, R, cr, rfl, hQ, hR, _, _, hb2⟩)
      go_roundw
      case rel => exact ⟨y, r, 1, _, Y, cy, R, cr, rfl, rfl, hy, by omega, Lib.hid (by rw [mg_pos HY0.out]; rfl), Lib.hid rfl, Lib.hid (HYD.out.keep hb2), Lib.hid hR, Lib.hid (.inl HY0.out), HN, below_all hbr hb2⟩
      case measure =>
        have h1 := HM.out
        rw [mg_pos HY0.out] at h1
        have h2 := ymes_eq (c := cr) hR
        simp at h1 h2 ⊢
        omega
end Go.Proofs.Tg
end
section
/- The harness's numbers: quotient and remainder with signs; fractions in lowest terms. -/
namespace Go.Proofs.Tg
open Go.RowKit Go.Gr
set_option maxHeartbeats 2000000
set_option maxRecDepth 100000
theorem mg_le (v : Nat) : (mg v).length ≤ 1 := by by_cases h : v = 0; (subst h; simp [mg]); (rw [mg_pos h]; simp)
theorem mg_sgn (b : Bool) (v : Nat) : (b && decide (0 < (mg v).length)) = (b && decide (v ≠ 0)) := by
  by_cases h : v = 0
  · subst h; simp [mg]
  · rw [mg_pos h]; simp [h]
def RetQR (p q : Bool) (a b : Nat) (w : World) (e : Ending) (w' : World) : Prop :=
  ∃ Q cq R cr x, e = .returned (.tuple #[.agg #[.bool ((p != q) && decide (a / b ≠ 0)), .slice Q (mg (a / b)).length cq], .agg #[.bool x, .slice R (mg (a % b)).length cr]]) ∧ Digs w' Q (mg (a / b)) ∧ Below w.heap.size w w'
theorem quorem_any (p q : Bool) (A B : Option Addr) (c d a b : Nat) (w : World) (hA : Digs w A (mg a)) (hB : Digs w B (mg b)) (ha : a < 4294967296) (hb : b ≠ 0) (hs : a ≠ 0 ∨ ∃ ad, A = some ad) :
    Calls Tryz.prog 73 #[.agg #[.bool p, .slice A (mg a).length c], .agg #[.bool q, .slice B (mg b).length d]] w (RetQR p q a b w) := by
  obtain ⟨na, hna⟩ : ∃ na, (mg a).length = na := ⟨_, rfl⟩
  obtain ⟨nb, hnb⟩ : ∃ nb, (mg b).length = nb := ⟨_, rfl⟩
  have HD : Hid (∀ W, Below w.heap.size w W → Calls Tryz.prog 80 #[.slice A na c, .slice B nb d] W (RetDiv a b W)) := Lib.hid (fun W h => by
    rw [← hna, ← hnb]; exact div_any A B c d a b W (hA.keep h) (hB.keep h) ha hb hs)
  rw [hna, hnb]
  unfold RetDiv at HD
  unfold RetQR
  have hqs := fun bb => mg_sgn bb (a / b)
  obtain ⟨s1, hs1⟩ : ∃ s1, ((p != q) && decide (a / b ≠ 0)) = s1 := ⟨_, rfl⟩
  rw [hs1]
  rw [← hqs] at hs1
  have l1 := mg_le (a / b)
  have l2 := mg_le (a % b)
  generalize a / b = qq at *
  generalize a % b = rr at *
  have HM1 : Hid (∀ W Q cq, Calls Tryz.prog 58 #[.bool (p != q), .slice Q (mg qq).length cq] W fun e w' => e = .returned (.agg #[.bool s1, .slice Q (mg qq).length cq]) ∧ Below W.heap.size W w') := Lib.hid (fun W Q cq => make1_any (p != q) Q (mg qq).length cq W s1 hs1 (by omega))
  obtain ⟨s2, hs2⟩ : ∃ s2, (p && decide (0 < (mg rr).length)) = s2 := ⟨_, rfl⟩
  have HM2 : Hid (∀ W R cr, Calls Tryz.prog 58 #[.bool p, .slice R (mg rr).length cr] W fun e w' => e = .returned (.agg #[.bool s2, .slice R (mg rr).length cr]) ∧ Below W.heap.size W w') := Lib.hid (fun W Q cq => make1_any p Q (mg rr).length cq W s2 hs2 (by omega))
  obtain ⟨n1, hn1⟩ : ∃ n1, (mg qq).length = n1 := ⟨_, rfl⟩
  obtain ⟨n2, hn2⟩ : ∃ n2, (mg rr).length = n2 := ⟨_, rfl⟩
  rw [hn1, hn2] at HD
  rw [hn1] at HM1
  rw [hn2] at HM2
  rw [hn1, hn2]
  clear hqs hs1 hs2 hna hnb hn1 hn2 hA hB hs l1 l2
  obtain ⟨W, hW⟩ : ∃ W, (((w.alloc (.cells #[.bool p, .slice A na c] 46)).alloc (.cells #[.bool q, .slice B nb d] 46)).alloc (.cells #[.bool false, .slice none 0 0] 46)).alloc (.cells #[.bool false, .slice none 0 0] 46) = W := ⟨_, rfl⟩
  have B0 : Blk W w.heap.size 46 #[.bool p, .slice A na c] := by rw [← hW]; exact (((Blk.new _ _ _).alloc _).alloc _).alloc _
  have B1 : Blk W (w.heap.size + 1) 46 #[.bool q, .slice B nb d] := by
    rw [← hW]; have := ((Blk.new (w.alloc (.cells #[.bool p, .slice A na c] 46)) 46 #[.bool q, .slice B nb d]).alloc (.cells #[.bool false, .slice none 0 0] 46)).alloc (.cells #[.bool false, .slice none 0 0] 46)
    simpa using this
  have B2 : Blk W (w.heap.size + 1 + 1) 46 #[.bool false, .slice none 0 0] := by
    rw [← hW]; have := (Blk.new ((w.alloc (.cells #[.bool p, .slice A na c] 46)).alloc (.cells #[.bool q, .slice B nb d] 46)) 46 #[.bool false, .slice none 0 0]).alloc (.cells #[.bool false, .slice none 0 0] 46)
    simpa using this
  have B3 : Blk W (w.heap.size + 1 + 1 + 1) 46 #[.bool false, .slice none 0 0] := by
    rw [← hW]; have := (Blk.new (((w.alloc (.cells #[.bool p, .slice A na c] 46)).alloc (.cells #[.bool q, .slice B nb d] 46)).alloc (.cells #[.bool false, .slice none 0 0] 46)) 46 #[.bool false, .slice none 0 0])
    simpa using this
  have hbW : Below w.heap.size w W := by rw [← hW]; exact ((((Below.refl _ _).alloc (Nat.le_refl _) _).alloc (by simp) _).alloc (by simp; omega) _).alloc (by simp; omega) _
  have hWs : W.heap.size = w.heap.size + 4 := by rw [← hW]; simp
  obtain ⟨a0, a1, _, _⟩ := B0.two
  obtain ⟨b0, b1, _, _⟩ := B1.two
  go_enter Tryz.func73, Tryz.ntmps73
  go_upto_region 1 with (fail)
  clear hW
  go_upto_region 2 with (go_at_call 80; refine (HD.out _ hbW).mono ?_; rintro e w2 ⟨Q, cq, R, cr, rfl, hQ, hR, _, _, hb2⟩)
  have C0 := B0.keep hb2 B0.lt
  have C1 := B1.keep hb2 B1.lt
  have C2 := B2.keep hb2 B2.lt
  have C3 := B3.keep hb2 B3.lt
  have hbe : Below w2.heap.size w2 w2.drew := (Below.refl _ _).drew
  have HM1' : Hid (∀ V, Below w2.heap.size w2 V → Calls Tryz.prog 58 #[.bool (!(p == q)), .slice Q n1 cq] V fun e w' => e = .returned (.agg #[.bool s1, .slice Q n1 cq]) ∧ Below w2.heap.size w2 w') := Lib.hid (fun V h => (HM1.out V Q cq).mono fun e w' ⟨x, y⟩ => ⟨x, below_all h y⟩)
  have HM2' : Hid (∀ V, Below w2.heap.size w2 V → Calls Tryz.prog 58 #[.bool p, .slice R n2 cr] V fun e w' => e = .returned (.agg #[.bool s2, .slice R n2 cr]) ∧ Below w2.heap.size w2 w') := Lib.hid (fun V h => (HM2.out V R cr).mono fun e w' ⟨x, y⟩ => ⟨x, below_all h y⟩)
  have hbw2 := below_all hbW hb2
  have HC2 := Lib.hid C2
  have HC3 := Lib.hid C3
  obtain ⟨e0, e1, _, _⟩ := C0.two
  obtain ⟨g0, g1, _, _⟩ := C1.two
  obtain ⟨i0, i1, i2, i3⟩ := C2.two
  obtain ⟨k0, k1, k2, k3⟩ := C3.two
  clear HM1 HM2 HD B0 B1 B2 B3 a0 a1 b0 b1 hb2 C2 C3
  have HC0 := Lib.hid C0
  have HC1 := Lib.hid C1
  clear C0 C1
  go_region_with
    (first
      | (go_at_call 58; with_reducible refine (HM1'.out _ (by assumption)).mono ?_; rintro e w' ⟨rfl, hbe⟩; have D0 := HC0.out.keep hbe HC0.out.lt; have D1 := HC1.out.keep hbe HC1.out.lt; obtain ⟨e0, e1, _, _⟩ := D0.two; obtain ⟨g0, g1, _, _⟩ := D1.two; have D2 := HC2.out.keep hbe HC2.out.lt; have D3 := HC3.out.keep hbe HC3.out.lt; obtain ⟨i0, i1, i2, i3⟩ := D2.two; obtain ⟨k0, k1, k2, k3⟩ := D3.two)
      | (go_at_call 58; with_reducible refine (HM2'.out _ (by assumption)).mono ?_; rintro e w' ⟨rfl, hbe⟩; have D0 := HC0.out.keep hbe HC0.out.lt; have D1 := HC1.out.keep hbe HC1.out.lt; obtain ⟨e0, e1, _, _⟩ := D0.two; obtain ⟨g0, g1, _, _⟩ := D1.two; have D2 := HC2.out.keep hbe HC2.out.lt; have D3 := HC3.out.keep hbe HC3.out.lt; obtain ⟨i0, i1, i2, i3⟩ := D2.two; obtain ⟨k0, k1, k2, k3⟩ := D3.two))
  all_goals
    go_wp2
    have hQ' : Digs w' Q (mg qq) := hQ.keep hbe
    have o2 := Digs.off hQ' (by omega) D2 (by simp [vd])
    have o3 := Digs.off hQ' (by omega) D3 (by simp [vd])
    refine bodyPost_ret (v := .tuple #[.agg #[.bool s1, .slice Q n1 cq], .agg #[.bool s2, .slice R n2 cr]]) (by simp [results, Tryz.results73, go_sem, i0, i1, k0, k1]) rfl ⟨Q, cq, R, cr, s2, rfl, ?_, ?_⟩
    · exact (((Digs.far hQ' o2 _ _).far o2 _ _).far o3 _ _).far o3 _ _
    · exact below_far (below_far (below_far (below_far (below_all hbw2 hbe) (by omega) _ _) (by omega) _ _) (by omega) _ _) (by omega) _ _
def dl (x : Nat) : List Nat := if x = 1 then [] else mg x
def RetFrac (p : Bool) (n m : Nat) (w : World) (e : Ending) (w' : World) : Prop :=
  ∃ N cn D cd, e = .returned (.agg #[.bool p, .slice N (mg n).length cn, .bool false, .slice D (dl m).length cd]) ∧ Digs w' N (mg n) ∧ Digs w' D (dl m) ∧ Below w.heap.size w w'
structure FrSt (w : World) (p : Bool) (n m : Nat) (N : Option Addr) (cn : Nat) (D : Option Addr) (cd : Nat) (wx : World) : Prop where
  below : Below w.heap.size w wx
  b0 : Blk wx w.heap.size 46 #[.bool p, .slice N (mg n).length cn]
  b1 : Blk wx (w.heap.size + 1) 46 #[.bool false, .slice D (mg m).length cd]
  b2 : Blk wx (w.heap.size + 1 + 1) 48 #[.bool false, .slice none 0 0, .bool false, .slice none 0 0]
  dn : Digs wx N (mg n)
  dd : Digs wx D (mg m)
theorem frac_any (p : Bool) (A B : Option Addr) (c d a b : Nat) (w : World) (hA : Digs w A (mg a)) (hB : Digs w B (mg b)) (ha : a < 4294967296) (hb : b < 4294967296) (hb0 : b ≠ 0) (hs : ∃ ad, A = some ad) (hp : p = true → a ≠ 0) :
    Calls Tryz.prog 54 #[.agg #[.bool p, .slice A (mg a).length c], .agg #[.bool false, .slice B (mg b).length d]] w (RetFrac p (a / Nat.gcd a b) (b / Nat.gcd a b) w) := by
  have HG : Hid (∀ W, Below w.heap.size w W → Calls Tryz.prog 71 #[.agg #[.bool p, .slice A (mg a).length c], .agg #[.bool false, .slice B (mg b).length d]] W (RetGcd (Nat.gcd a b) W)) := Lib.hid (fun W h => ngcd_any p false A B c d a b W (hA.keep h) (hB.keep h) ha hb (.inr hs))
  have hg0 : Nat.gcd a b ≠ 0 := Nat.pos_iff_ne_zero.1 (Nat.gcd_pos_of_pos_right _ (by omega))
  have hgl : Nat.gcd a b ≤ b := Nat.gcd_le_right _ (by omega)
  have hm0 : b / Nat.gcd a b ≠ 0 := Nat.pos_iff_ne_zero.1 (Nat.div_pos hgl (by omega))
  have hml : b / Nat.gcd a b ≤ b := Nat.div_le_self _ _
  have HSG : Hid (p = true → a / Nat.gcd a b ≠ 0) := Lib.hid (fun h => Nat.pos_iff_ne_zero.1 (Nat.div_pos (Nat.gcd_le_left _ (Nat.pos_of_ne_zero (hp h))) (by omega)))
  generalize Nat.gcd a b = g at *
  have hng : (mg g).length = 1 := by rw [mg_pos hg0]; rfl
  have hnb : (mg b).length = 1 := by rw [mg_pos hb0]; rfl
  obtain ⟨na, hna⟩ : ∃ na, (mg a).length = na := ⟨_, rfl⟩
  rw [hna, hnb] at HG
  rw [hna, hnb]
  unfold RetGcd at HG
  rw [hng, mg_pos hg0] at HG
  have HNA := Lib.hid hna
  clear hna hnb hng
  obtain ⟨W, hW⟩ : ∃ W, ((w.alloc (.cells #[.bool p, .slice A na c] 46)).alloc (.cells #[.bool false, .slice B 1 d] 46)).alloc (.cells #[.bool false, .slice none 0 0, .bool false, .slice none 0 0] 48) = W := ⟨_, rfl⟩
  have B0 : Blk W w.heap.size 46 #[.bool p, .slice A na c] := by rw [← hW]; exact ((Blk.new _ _ _).alloc _).alloc _
  have B1 : Blk W (w.heap.size + 1) 46 #[.bool false, .slice B 1 d] := by
    rw [← hW]; have := (Blk.new (w.alloc (.cells #[.bool p, .slice A na c] 46)) 46 #[.bool false, .slice B 1 d]).alloc (.cells #[.bool false, .slice none 0 0, .bool false, .slice none 0 0] 48)
    simpa using this
  have B2 : Blk W (w.heap.size + 1 + 1) 48 #[.bool false, .slice none 0 0, .bool false, .slice none 0 0] := by
    rw [← hW]; have := (Blk.new ((w.alloc (.cells #[.bool p, .slice A na c] 46)).alloc (.cells #[.bool false, .slice B 1 d] 46)) 48 #[.bool false, .slice none 0 0, .bool false, .slice none 0 0])
    simpa using this
  have hbW : Below w.heap.size w W := by rw [← hW]; exact (((Below.refl _ _).alloc (Nat.le_refl _) _).alloc (by simp) _).alloc (by simp; omega) _
  have hWs : W.heap.size = w.heap.size + 3 := by rw [← hW]; simp
  obtain ⟨a0, a1, _, _⟩ := B0.two
  obtain ⟨b0, b1, _, _⟩ := B1.two
  go_enter Tryz.func54, Tryz.ntmps54
  go_upto_region 1 with (fail)
  clear hW
  go_upto_region 4 with (go_at_call 71; refine (HG.out _ hbW).mono ?_; rintro e w2 ⟨G, cg, rfl, hG, hb2⟩)
  obtain ⟨V, hV⟩ : ∃ V, w2.alloc (.cells #[.bool false, .slice G 1 cg] 46) = V := ⟨_, rfl⟩
  try rw [hV]
  have hbV : Below w2.heap.size w2 V := by rw [← hV]; exact (Below.refl _ _).alloc (Nat.le_refl _) _
  have C5 : Blk V w2.heap.size 46 #[.bool false, .slice G 1 cg] := by rw [← hV]; exact Blk.new _ _ _
  have C0 := (B0.keep hb2 B0.lt).keep hbV (B0.keep hb2 B0.lt).lt
  have C1 := (B1.keep hb2 B1.lt).keep hbV (B1.keep hb2 B1.lt).lt
  have C2 := (B2.keep hb2 B2.lt).keep hbV (B2.keep hb2 B2.lt).lt
  have hbwV := below_all (below_all hbW hb2) hbV
  have hGV := hG.keep hbV
  have hs2 : W.heap.size ≤ w2.heap.size := hb2.size
  clear hb2 hG hbV hV a0 a1 b0 b1 B0 B1 B2 HG
  obtain ⟨g0, g1, _, _⟩ := C5.two
  have HB : Hid (Calls Tryz.prog 72 #[.agg #[.bool false, .slice G 1 cg]] V fun e w' => e = .returned (.int .i64 (blen g : Nat)) ∧ Below V.heap.size V w') := Lib.hid (bits_one false G cg g V hGV (by omega))
  have hbl := blen_le g g (Nat.le_refl _)
  have HBG := Lib.hid (blen_gt (v := g))
  obtain ⟨bg, hbg⟩ : ∃ bg, blen g = bg := ⟨_, rfl⟩
  rw [hbg] at HB HBG hbl
  clear hbg
  go_upto_if 17 with (go_at_call 72; refine HB.out.mono ?_; rintro e w3 ⟨rfl, hb3⟩)
  have D0 := C0.keep hb3 C0.lt
  have D1 := C1.keep hb3 C1.lt
  have D2 := C2.keep hb3 C2.lt
  have D5 := C5.keep hb3 C5.lt
  have hb3' := below_all hbwV hb3
  have hG3 := hGV.keep hb3
  have HSN : Hid (∀ W N cn D cd, FrSt w p (a / g) (b / g) N cn D cd W → FrSt w p (a / g) (b / g) N cn D cd W) := Lib.hid (fun _ _ _ _ _ h => h)
  go_cut [] from 17 (fun wx => ∃ N cn D cd, FrSt w p (a / g) (b / g) N cn D cd wx)
  case first =>
    by_cases h1 : g = 1
    · have hbb : decide ((1 : Int) < (bg : Int)) = false := by
        have := HBG.out
        simp; omega
      have hbb' : decide (1 < bg) = false := by
        have := HBG.out
        simp; omega
      have HF : Hid (FrSt w p (a / g) (b / g) A c B d w3) := Lib.hid (by
        rw [h1, Nat.div_one, Nat.div_one]
        exact ⟨hb3', by rw [HNA.out]; exact D0, by rw [mg_pos hb0]; exact D1, D2, hA.keep hb3', hB.keep hb3'⟩)
      go_wp2
      go_meet
      exact ⟨A, c, B, d, HF.out⟩
    · have hbb : decide ((1 : Int) < (bg : Int)) = true := by
        have := HBG.out
        simp; omega
      have hbb' : decide (1 < bg) = true := by
        have := HBG.out
        simp; omega
      have hbi : (1 : Int) < (bg : Int) := by
        have := HBG.out
        omega
      have HQ1 : Hid (∀ W, Below w3.heap.size w3 W → Calls Tryz.prog 73 #[.agg #[.bool p, .slice A na c], .agg #[.bool false, .slice G 1 cg]] W (RetQR p false a g W)) := Lib.hid (fun W h => by
        have := quorem_any p false A G c cg a g W ((hA.keep hb3').keep h) (by rw [mg_pos hg0]; exact hG3.keep h) ha hg0 (.inr hs)
        rw [HNA.out, mg_pos hg0] at this
        exact this)
      have HQ2 : Hid (∀ W, Digs W B [b] → Digs W G [g] → Calls Tryz.prog 73 #[.agg #[.bool false, .slice B 1 d], .agg #[.bool false, .slice G 1 cg]] W (RetQR false false b g W)) := Lib.hid (fun W h h' => by
        have := quorem_any false false B G d cg b g W (by rw [mg_pos hb0]; exact h) (by rw [mg_pos hg0]; exact h') hb hg0 (.inl hb0)
        rw [mg_pos hb0, mg_pos hg0] at this
        exact this)
      have hsg : ((p != false) && decide (a / g ≠ 0)) = p := by
        have := HSG.out
        cases p with
        | false => rfl
        | true => simp [this rfl]
      have hsg2 : ((false != false) && decide (b / g ≠ 0)) = false := rfl
      unfold RetQR at HQ1 HQ2
      rw [hsg] at HQ1
      rw [hsg2] at HQ2
      clear hsg hsg2
      generalize a / g = qn at *
      generalize b / g = qm at *
      obtain ⟨d0, d1, d2, d3⟩ := D0.two
      obtain ⟨f0, f1, _, _⟩ := D5.two
      go_wp2_with (fail)
      refine (HQ1.out _ (Below.refl _ _)).mono ?_
      rintro e w4 ⟨N, cn, _, _, _, rfl, hN, hb4⟩
      clear d0 d1 d2 d3 f0 f1
      have E0 := D0.keep hb4 D0.lt
      have E1 := D1.keep hb4 D1.lt
      have E2 := D2.keep hb4 D2.lt
      have E5 := D5.keep hb4 D5.lt
      have E5lt := D5.lt
      obtain ⟨d0, d1, d2, d3⟩ := E0.two
      have hB4 : Digs w4 B [b] := by have := (hB.keep hb3').keep hb4; rwa [mg_pos hb0] at this
      have hG4 := hG3.keep hb4
      have oN := Digs.off hN (by omega) E0 (by simp [vd])
      have oB := Digs.off hB4 (by omega) E0 (by simp [vd])
      have oG := Digs.off hG4 (by omega) E0 (by simp [vd])
      obtain ⟨V5, hV5⟩ : ∃ V5, (w4.setCell ⟨w.heap.size, 0, none⟩ (.bool p)).setCell ⟨w.heap.size, 1, none⟩ (.slice N (mg qn).length cn) = V5 := ⟨_, rfl⟩
      have F0 : Blk V5 w.heap.size 46 #[.bool p, .slice N (mg qn).length cn] := by rw [← hV5]; exact (E0.set 0 _).set 1 _
      have F1 : Blk V5 (w.heap.size + 1) 46 #[.bool false, .slice B 1 d] := by rw [← hV5]; exact (E1.far (by simp) _).far (by simp) _
      have F2 : Blk V5 (w.heap.size + 1 + 1) 48 #[.bool false, .slice none 0 0, .bool false, .slice none 0 0] := by rw [← hV5]; exact (E2.far (by simp; omega) _).far (by simp; omega) _
      have F5 : Blk V5 w2.heap.size 46 #[.bool false, .slice G 1 cg] := by rw [← hV5]; exact (E5.far (by simp; omega) _).far (by simp; omega) _
      have hN5 : Digs V5 N (mg qn) := by rw [← hV5]; exact (Digs.far hN oN _ _).far oN _ _
      have hB5 : Digs V5 B [b] := by rw [← hV5]; exact (Digs.far hB4 oB _ _).far oB _ _
      have hG5 : Digs V5 G [g] := by rw [← hV5]; exact (Digs.far hG4 oG _ _).far oG _ _
      have hb5 : Below w.heap.size w V5 := by rw [← hV5]; exact below_far (below_far (below_all hb3' hb4) (Nat.le_refl _) _ _) (Nat.le_refl _) _ _
      clear E0 E1 E2 E5 hN hB4 hG4 oN oB oG hb4
      obtain ⟨e0, e1, e2, e3⟩ := F1.two
      obtain ⟨f0, f1, _, _⟩ := F5.two
      go_upto_region 6 with (fail)
      try rw [hV5]
      clear hV5 d0 d1 d2 d3
      go_wp2_with (fail)
      refine (HQ2.out _ hB5 hG5).mono ?_
      rintro e w6 ⟨D, cd, _, _, _, rfl, hD, hb6⟩
      have G1 := F1.keep hb6 F1.lt
      clear e0 e1 e2 e3 f0 f1
      obtain ⟨e0, e1, e2, e3⟩ := G1.two
      have oN := Digs.off (hN5.keep hb6) (by omega) G1 (by simp [vd])
      have oD := Digs.off hD (by omega) G1 (by simp [vd])
      go_wp2
      go_meet
      refine ⟨N, cn, D, cd, ?_, ?_, ?_, ?_, ?_, ?_⟩
      · exact below_far (below_far (below_all hb5 hb6) (by omega) _ _) (by omega) _ _
      · exact ((F0.keep hb6 F0.lt).far (by simp) _).far (by simp) _
      · exact (G1.set 0 _).set 1 _
      · exact ((F2.keep hb6 F2.lt).far (by simp) _).far (by simp) _
      · exact (Digs.far (hN5.keep hb6) oN _ _).far oN _ _
      · exact (Digs.far hD oD _ _).far oD _ _
      all_goals (exfalso; omega)
  case rest =>
    obtain ⟨N, cn, D, cd, hst⟩ := hcut
    obtain ⟨hbx, X0, X1, X2, dn, dd⟩ := hst
    clear C0 C1 C2 C5 D0 D1 D2 D5 g0 g1
    generalize a / g = qn at *
    generalize b / g = qm at *
    have HFIN := Lib.hid dn
    have HFID := Lib.hid dd
    rw [mg_pos hm0] at X1 dd
    have HB2 : Hid (Calls Tryz.prog 72 #[.agg #[.bool false, .slice D 1 cd]] wc fun e w' => e = .returned (.int .i64 (blen qm : Nat)) ∧ Below wc.heap.size wc w') := Lib.hid (bits_one false D cd qm wc dd (by omega))
    have hbl2 := blen_le qm qm (Nat.le_refl _)
    have HB1 := Lib.hid (blen_one (v := qm))
    obtain ⟨bm, hbm⟩ : ∃ bm, blen qm = bm := ⟨_, rfl⟩
    rw [hbm] at HB2 HB1 hbl2
    clear hbm
    obtain ⟨nn, hnn⟩ : ∃ nn, (mg qn).length = nn := ⟨_, rfl⟩
    rw [hnn] at X0
    have HNN := Lib.hid hnn
    clear hnn
    obtain ⟨x0, x1, _, _⟩ := X0.two
    obtain ⟨y0, y1, y2, y3⟩ := X1.two
    by_cases hm1 : qm = 1
    · have hbb : ((bm : Int) == 1) = true := by
        have := HB1.out.2 hm1
        simp [this]
      have hbb' : (bm == 1) = true := by
        have := HB1.out.2 hm1
        simp [this]
      have HDL : Hid (dl qm = []) := Lib.hid (by unfold dl; rw [if_pos hm1])
      clear hm1
      go_wp2_with (go_at_call 72; refine HB2.out.mono ?_; rintro e w7 ⟨rfl, hb7⟩
                   have Y0 := X0.keep hb7 X0.lt
                   have Y1 := X1.keep hb7 X1.lt
                   have Y2 := X2.keep hb7 X2.lt
                   obtain ⟨x0, x1, x2, x3⟩ := Y0.two
                   obtain ⟨y0, y1, y2, y3⟩ := Y1.two
                   obtain ⟨z0, z1, z2, z3, v0, v1, v2, v3⟩ := Y2.four)
      have hn7 := HFIN.out.keep hb7
      have o1 := Digs.off hn7 (by omega) Y1 (by simp [vd])
      have o2 := Digs.off hn7 (by omega) Y2 (by simp [vd])
      refine bodyPost_ret (v := .agg #[.bool p, .slice N nn cn, .bool false, .slice none 0 0]) (by simp [results, Tryz.results54, go_sem, z0, z1, z2, z3]) rfl ⟨N, cn, none, 0, by rw [HNN.out, HDL.out]; rfl, ?_, by rw [HDL.out]; exact Digs.nil _ _, ?_⟩
      · exact (((((Digs.far hn7 o1 _ _).far o1 _ _).far o2 _ _).far o2 _ _).far o2 _ _).far o2 _ _
      · exact below_far (below_far (below_far (below_far (below_far (below_far (below_all hbx hb7) (by omega) _ _) (by omega) _ _) (by omega) _ _) (by omega) _ _) (by omega) _ _) (by omega) _ _
    · have hbb : ((bm : Int) == 1) = false := by
        have := HB1.out
        simp; omega
      have hbb' : (bm == 1) = false := by
        have := HB1.out
        simp; omega
      have HDL : Hid (dl qm = mg qm) := Lib.hid (by unfold dl; rw [if_neg hm1])
      have HM0 := Lib.hid hm0
      clear hm1
      go_wp2_with (go_at_call 72; refine HB2.out.mono ?_; rintro e w7 ⟨rfl, hb7⟩
                   have Y0 := X0.keep hb7 X0.lt
                   have Y1 := X1.keep hb7 X1.lt
                   have Y2 := X2.keep hb7 X2.lt
                   obtain ⟨x0, x1, x2, x3⟩ := Y0.two
                   obtain ⟨y0, y1, y2, y3⟩ := Y1.two
                   obtain ⟨z0, z1, z2, z3, v0, v1, v2, v3⟩ := Y2.four)
      have hn7 := HFIN.out.keep hb7
      have hd7 := HFID.out.keep hb7
      have o2 := Digs.off hn7 (by omega) Y2 (by simp [vd])
      have o3 := Digs.off hd7 (by omega) Y2 (by simp [vd])
      refine bodyPost_ret (v := .agg #[.bool p, .slice N nn cn, .bool false, .slice D 1 cd]) (by simp [results, Tryz.results54, go_sem, z0, z1, z2, z3]) rfl ⟨N, cn, D, cd, by rw [HNN.out, HDL.out, mg_pos HM0.out]; rfl, ?_, ?_, ?_⟩
      · exact (((Digs.far hn7 o2 _ _).far o2 _ _).far o2 _ _).far o2 _ _
      · rw [HDL.out]; exact (((Digs.far hd7 o3 _ _).far o3 _ _).far o3 _ _).far o3 _ _
      · exact below_far (below_far (below_far (below_far (below_all hbx hb7) (by omega) _ _) (by omega) _ _) (by omega) _ _) (by omega) _ _
end Go.Proofs.Tg
end
