/- Walks: characters. -/
import Derived.Test.YtapkdofmcchdcaaGreatDoorWD1
namespace Go.Proofs.Tg
open Go.RowKit Go.Gr Go.Ev Go.Mo
set_option maxHeartbeats 2000000
set_option maxRecDepth 100000
theorem fill_zero (L : List Int) (k n : Nat) (hn : L.length = n) (hk : k < n) (h : L[k] = 0) : L.take k ++ List.replicate (n - k) 0 = L.take (k + 1) ++ List.replicate (n - (k + 1)) 0 := by
  rw [List.take_succ_eq_append_getElem (by omega), h, show n - k = (n - (k + 1)) + 1 by omega, List.replicate_succ]; simp
theorem fill_set (L : List Int) (k n : Nat) (x : Int) (hn : L.length = n) (hk : k < n) (h : L[k] = x) : (L.take k ++ List.replicate (n - k) 0).set k x = L.take (k + 1) ++ List.replicate (n - (k + 1)) 0 := by
  have hl : (L.take k).length = k := by rw [List.length_take]; omega
  rw [List.take_succ_eq_append_getElem (by omega), h, show n - k = (n - (k + 1)) + 1 by omega, List.replicate_succ, List.set_append_right _ _ (by omega), hl, Nat.sub_self, List.set_cons_zero]; simp
theorem small_of_vld {m : List Int} (h : vldM m = true) : m.length ≤ 6 ∧ ∀ x ∈ m, 0 ≤ x ∧ x ≤ 24 := by
  obtain ⟨h1, h2, h3⟩ := vldM_iff.1 h
  refine ⟨h1, fun x hx => ⟨h2 x hx, ?_⟩⟩
  obtain ⟨i, hi, rfl⟩ := List.mem_iff_getElem.1 hx
  have a := sum_take_le m (i + 1) h2
  rw [sum_take_succ m i hi] at a
  have b := sum_nonneg (m.take i) (fun e he => h2 e (List.mem_of_mem_take he))
  omega
theorem char_any (S M : Option Addr) (cs cm : Nat) (s : List (List Int)) (m : List Int) (w : World) (hS : Lists w S s) (hM : Ints w M m) (hs : s.length ≤ 1000) (hm : vldM m = true) (hb : ∀ v ∈ s, b01 v = true) (hl : ∀ v ∈ s, v.length = m.length) :
    Calls Tryz.prog 64 #[.slice S s.length cs, .slice M m.length cm] w (RetNew (chr s m) w) := by
  obtain ⟨hm6, hmx⟩ := small_of_vld hm
  have HB := Lib.hid hb
  have HL := Lib.hid hl
  have HMX := Lib.hid hmx
  clear hb hl hmx
  have hmk := fun W => make_ints s.length s.length (Nat.le_refl _) (by omega) W
  have HPM := Lib.hid (pack_any M cm m w hM (by omega) (fun x hx => by have := HMX.out x hx; omega))
  have hpm : pk m m.length < 64 := by
    have := pk_lt m m.length
    have h6 : 2 ^ m.length ≤ 2 ^ 6 := Nat.pow_le_pow_right (by omega) hm6
    omega
  go_enter Tryz.func64, Tryz.ntmps64
  go_wp2_with (go_at_call 56; refine HPM.out.mono ?_; rintro e w' ⟨rfl, rfl⟩)
  clear hmk
  go_loopw [16] (fun i wr => ∃ k : Nat, k ≤ s.length ∧ i = .int .i64 k ∧ Blk wr w.heap.size 3 (iarr ((chr s m).take k ++ List.replicate (s.length - k) 0)) ∧ Below w.heap.size w wr) (fun i _ => s.length - (intOf i).toNat)
  case atStart =>
    refine ⟨0, Nat.zero_le _, rfl, ?_, (Below.refl _ _).alloc (Nat.le_refl _) _⟩
    have e : iarr ((chr s m).take 0 ++ List.replicate (s.length - 0) 0) = madeCells #[.int .i64 0] s.length := (iarr_made s.length).symm
    rw [e]
    exact Blk.new w 3 _
  case round =>
    obtain ⟨k, hk, rfl, B, hbw⟩ := hrel
    have hcl := chr_len s m
    by_cases hlt : k < s.length
    · obtain ⟨ad, A, c, rfl, hc, hA⟩ := (hS.keep hbw).at hlt
      have hbv := HB.out s[k] (List.getElem_mem _)
      have hlv := HL.out s[k] (List.getElem_mem _)
      have HCH : Hid ((chr s m)[k]'(by rw [hcl]; exact hlt) = if size (pk s[k] s[k].length &&& pk m m.length) % 2 = 1 then 1 else 0) := Lib.hid (by
        unfold chr
        rw [List.getElem_map]
        exact chr_odd (b01_iff.1 hbv) (fun x hx => (HMX.out x hx).1) hlv (by omega))
      generalize s[k] = v at *
      have HPV := Lib.hid (pack_any A c v wr hA (by omega) (fun x hx => by
        rcases b01_iff.1 hbv x hx with h | h <;> omega))
      have hpv : pk v v.length < 64 := by
        have := pk_lt v v.length
        have h6 : 2 ^ v.length ≤ 2 ^ 6 := Nat.pow_le_pow_right (by omega) (by omega)
        omega
      clear hbv hA hlv
      generalize pk v v.length = pv at *
      generalize pk m m.length = pm at *
      have hL2 : ((chr s m).take k ++ List.replicate (s.length - k) 0).length = s.length := by rw [List.length_append, List.length_take, List.length_replicate, hcl]; omega
      by_cases hod : size (pv &&& pm) % 2 = 1
      · have HO : Hid (∀ W, Calls Tryz.prog 57 #[.int .i64 pv, .int .i64 pm] W fun r w' => r = .returned (.bool true) ∧ W = w') := Lib.hid (fun W => (odd_any pv pm W (by omega) (by omega)).mono fun r w' ⟨h1, h2⟩ => ⟨by rw [h1, decide_eq_true hod], h2⟩)
        have HST : Hid (((chr s m).take k ++ List.replicate (s.length - k) 0).set k 1 = (chr s m).take (k + 1) ++ List.replicate (s.length - (k + 1)) 0) := Lib.hid (fill_set _ k _ 1 hcl hlt (by rw [HCH.out, if_pos hod]))
        have HBB := Lib.hid (B.set k (.int .i64 1))
        have c0 := B.cell k
        have f0 := B.frozen k
        rw [iarr_at _ (by rw [hL2]; exact hlt)] at c0
        generalize ((chr s m).take k ++ List.replicate (s.length - k) 0)[k]'(by rw [hL2]; exact hlt) = old at c0
        clear hod B hL2
        go_wp2_with (first
          | (go_at_call 56; (with_reducible refine HPV.out.mono ?_); rintro e w' ⟨rfl, rfl⟩)
          | (go_at_call 57; refine (HO.out _).mono ?_; rintro e w' ⟨rfl, rfl⟩))
        go_roundw
        case rel =>
          refine ⟨k + 1, by omega, by go_num, ?_, hbw.setCell (Nat.le_refl _) _⟩
          have := HBB.out
          rw [iarr_set, HST.out] at this
          exact this
        case measure => simp [intOf]; omega
      · have HO : Hid (∀ W, Calls Tryz.prog 57 #[.int .i64 pv, .int .i64 pm] W fun r w' => r = .returned (.bool false) ∧ W = w') := Lib.hid (fun W => (odd_any pv pm W (by omega) (by omega)).mono fun r w' ⟨h1, h2⟩ => ⟨by rw [h1, decide_eq_false hod], h2⟩)
        have HST : Hid ((chr s m).take k ++ List.replicate (s.length - k) 0 = (chr s m).take (k + 1) ++ List.replicate (s.length - (k + 1)) 0) := Lib.hid (fill_zero _ k _ hcl hlt (by rw [HCH.out, if_neg hod]))
        clear hod hL2
        go_wp2_with (first
          | (go_at_call 56; (with_reducible refine HPV.out.mono ?_); rintro e w' ⟨rfl, rfl⟩)
          | (go_at_call 57; refine (HO.out _).mono ?_; rintro e w' ⟨rfl, rfl⟩))
        go_roundw
        case rel => exact ⟨k + 1, by omega, by go_num, by rw [← HST.out]; exact B, hbw⟩
        case measure => simp [intOf]; omega
    · obtain rfl : k = s.length := by omega
      go_wp2
      go_ret
      refine ⟨by rw [hcl]; rfl, ?_, hbw⟩
      rw [Nat.sub_self, List.replicate_zero, List.append_nil, List.take_of_length_le (by omega)] at B
      exact B
/-- What the character of a monomial is, or the error. -/
def RetChar (s : List (List Int)) (m : List Int) (w : World) (e : Ending) (w' : World) : Prop :=
  ∃ A c, e = .returned (.tuple #[.slice A (if chk s [m] = 0 then chr s m else []).length c, .int .i64 (chk s [m])]) ∧ Ints w' A (if chk s [m] = 0 then chr s m else []) ∧ Below w.heap.size w w'
theorem sl_new {w : World} {g : Nat} {l : List Int} (h : Blk w g 3 (iarr l)) : Ints w (some ⟨g, 0, none⟩) l :=
  ⟨by simp, fun _ => ⟨_, rfl, h.lt, fun j u hu => by rw [add_lit, Nat.zero_add, h.cell j]; simpa [iarr] using hu⟩⟩
theorem lists_one {w : World} {g c : Nat} {A : Option Addr} {m : List Int} (hA : Ints w A m) (h : w.cell? ⟨g, 0, none⟩ = some (.slice A m.length c)) : Lists w (some ⟨g, 0, none⟩) [m] := by
  refine ⟨fun _ => (A, c), ⟨by simp, fun _ => ⟨_, rfl, World.block_lt_of_cell? w _ h, fun j u hu => ?_⟩⟩, fun i hi => ?_⟩
  · match j with
    | 0 =>
      have e : u = .slice A m.length c := by simpa using hu.symm
      subst e
      exact h
    | j + 1 => simp at hu
  · have : i = 0 := by simpa using hi
    subst this
    exact hA
theorem Char_any (S M : Option Addr) (cs cm : Nat) (s : List (List Int)) (m : List Int) (w : World) (hS : Lists w S s) (hM : Ints w M m) (hs : s.length ≤ 1000) (hs2 : ∀ v ∈ s, v.length ≤ 1000) (hm2 : m.length ≤ 1000) :
    Calls Tryz.prog 21 #[.slice S s.length cs, .slice M m.length cm] w (RetChar s m w) := by
  have hbA : Below w.heap.size w (w.alloc (.cells #[.slice M m.length cm] 31)) := (Below.refl _ _).alloc (Nat.le_refl _) _
  have hL1 := lists_one (hM.keep hbA) (Blk.cell (Blk.new w 31 #[.slice M m.length cm]) 0)
  have HC := Lib.hid (check_any S (some ⟨w.heap.size, 0, none⟩) cs 1 s [m] _ (hS.keep hbA) hL1 hs (by simp) hs2 (by simpa using hm2))
  clear hL1
  by_cases hz : chk s [m] = 0
  · obtain ⟨i1, i2, i3⟩ := chk_inv hz
    have HK := Lib.hid (char_any S M cs cm s m _ (hS.keep hbA) (hM.keep hbA) hs (i1 m (by simp)) i2 (fun v hv => i3 v hv m (by simp)))
    rw [hz] at HC
    have HZ := Lib.hid hz
    clear hz
    go_enter Tryz.func21, Tryz.ntmps21
    go_wp2_with (first
      | (go_at_call 63; refine HC.out.mono ?_; rintro e w' ⟨rfl, rfl⟩)
      | (go_at_call 64; refine HK.out.mono ?_; rintro e w2 ⟨rfl, hB, hb2⟩))
    go_ret2
    refine ⟨some ⟨w.heap.size + 1, 0, none⟩, (chr s m).length, ?_, ?_, hbA.trans (hb2.mono (by simp))⟩
    · rw [HZ.out, if_pos rfl]; simp
    · rw [HZ.out, if_pos rfl]
      have := sl_new hB
      simpa using this
  · have hzb : (chk s [m] != 0) = true := by simp [hz]
    have HE : Hid ((if chk s [m] = 0 then chr s m else []) = []) := Lib.hid (if_neg hz)
    clear hz
    unfold RetChar
    rw [HE.out]
    generalize chk s [m] = z at *
    go_enter Tryz.func21, Tryz.ntmps21
    go_wp2_with (go_at_call 63; refine HC.out.mono ?_; rintro e w' ⟨rfl, rfl⟩)
    go_ret2
    exact ⟨none, 0, rfl, Sl.nil _ _ _, hbA⟩
end Go.Proofs.Tg
