/- Walks of the reference: monomials, sign vectors, inner products, the check. -/
import Derived.Test.YtapkdofmcchdcaaGreatDoorWD2
import Derived.Test.YtapkdofmcchdcaaGreatDoorWD5
namespace Go.Proofs.Tg
open Go.RowKit Go.Gr Go.Ev Go.Mo
set_option maxHeartbeats 2000000
set_option maxRecDepth 100000
theorem rdeg_any (A : Option Addr) (c : Nat) (m : List Int) (w : World) (hA : Ints w A m) (hn : m.length ≤ 1000) :
    Calls Tryz.prog 123 #[.slice A m.length c] w fun e w' => e = .returned (.int .i64 (degM m)) ∧ w = w' := by
  by_cases hl : m.length ≤ 6
  · have hd : decide ((6 : Int) < (m.length : Int)) = false := by simp; omega
    go_enter Tryz.func123, Tryz.ntmps123
    go_wp2
    go_loop [3, 4] (fun s i => ∃ k : Nat, k ≤ m.length ∧ i = .int .i64 k ∧ ∃ z : Int, s = .int .i64 z ∧ 0 ≤ z ∧ z ≤ 24 ∧ Hid (z = (m.take k).sum ∧ ∀ e ∈ m.take k, 0 ≤ e)) (fun _ i => m.length - (intOf i).toNat)
    case atStart => exact ⟨0, Nat.zero_le _, rfl, 0, rfl, by omega, by omega, Lib.hid ⟨rfl, by simp⟩⟩
    case round =>
      obtain ⟨k, hk, rfl, z, rfl, hz0, hz1, HZ⟩ := hrel
      by_cases hlt : k < m.length
      · obtain ⟨ad, rfl, hc⟩ := Ints.at hA hlt
        have HS : Hid ((m.take (k + 1)).sum = z + m[k]) := Lib.hid (by rw [sum_take_succ m k hlt, ← HZ.out.1])
        have HB : Hid (m[k] < 0 ∨ 24 - z < m[k] → vldM m = false) := Lib.hid (fun h => vldM_bad hlt (by rw [← HZ.out.1]; exact h))
        have HT : Hid (m.take (k + 1) = m.take k ++ [m[k]]) := Lib.hid (List.take_succ_eq_append_getElem hlt)
        clear hA
        generalize m[k] = x at hc HS HB HT
        by_cases h1 : x < 0
        · have b1 : decide (x < 0) = true := by simpa using h1
          have HF : Hid (degM m = -1) := Lib.hid (by unfold degM; rw [HB.out (.inl h1)]; rfl)
          go_wp2
          go_ret
          exact ⟨by rw [HF.out]; rfl, rfl⟩
        · have b1 : decide (x < 0) = false := by simpa using h1
          by_cases h2 : 24 - z < x
          · have b2 : decide (24 - z < x) = true := by simpa using h2
            have HF : Hid (degM m = -1) := Lib.hid (by unfold degM; rw [HB.out (.inr h2)]; rfl)
            go_wp2
            go_ret
            exact ⟨by rw [HF.out]; rfl, rfl⟩
          · have b2 : decide (24 - z < x) = false := by simpa using h2
            go_wp2
            go_round
            case rel =>
              refine ⟨k + 1, by omega, by go_num, z + x, rfl, by omega, by omega, Lib.hid ⟨HS.out.symm, fun e he => ?_⟩⟩
              rw [HT.out] at he
              rcases List.mem_append.1 he with he | he
              · exact HZ.out.2 e he
              · simp at he; omega
            case measure => simp [intOf]; omega
      · obtain rfl : k = m.length := by omega
        have HF : Hid (degM m = z) := Lib.hid (by
          have h := HZ.out
          rw [List.take_length] at h
          unfold degM
          rw [if_pos (vldM_iff.2 ⟨hl, h.2, by omega⟩), h.1])
        go_wp2
        go_ret
        exact ⟨by rw [HF.out]; rfl, rfl⟩
  · have hd : decide ((6 : Int) < (m.length : Int)) = true := by simp; omega
    have HF : Hid (degM m = -1) := Lib.hid (by
      unfold degM
      rw [if_neg (by rw [vldM_iff]; exact fun h => hl h.1)])
    go_enter Tryz.func123, Tryz.ntmps123
    go_wp2
    go_ret
    exact ⟨by rw [HF.out]; rfl, rfl⟩
theorem rvalid_any (A : Option Addr) (c : Nat) (m : List Int) (w : World) (hA : Ints w A m) (hn : m.length ≤ 1000) :
    Calls Tryz.prog 86 #[.slice A m.length c] w fun e w' => e = .returned (.bool (vldM m)) ∧ w = w' := by
  have HD : Hid (decide (0 ≤ degM m) = vldM m) := Lib.hid degM_ge
  have HC := Lib.hid (rdeg_any A c m w hA hn)
  by_cases hl : m.length ≤ 6
  · have hd : decide ((m.length : Int) ≤ 6) = true := by simp; omega
    generalize degM m = z at *
    go_enter Tryz.func86, Tryz.ntmps86
    go_wp2_with (go_at_call 123; refine HC.out.mono ?_; rintro e w' ⟨rfl, rfl⟩)
    go_ret
    exact ⟨by rw [← HD.out]; rfl, rfl⟩
  · have hd : decide ((m.length : Int) ≤ 6) = false := by simp; omega
    have HF : Hid (vldM m = false) := Lib.hid (eq_false_of_ne_true (by rw [vldM_iff]; exact fun h => hl h.1))
    go_enter Tryz.func86, Tryz.ntmps86
    go_wp2
    go_ret
    exact ⟨by rw [HF.out]; rfl, rfl⟩
theorem rvld_lit (A : Option Addr) (c : Nat) (m : List Int) (w : World) (hA : Ints w A m) (hn : m.length ≤ 1000) (b : Bool) (hb : vldM m = b) :
    Calls Tryz.prog 86 #[.slice A m.length c] w fun e w' => e = .returned (.bool b) ∧ w = w' := by rw [← hb]; exact rvalid_any A c m w hA hn
theorem rbits_lit (A : Option Addr) (c : Nat) (l : List Int) (w : World) (hA : Ints w A l) (hn : l.length ≤ 1000) (b : Bool) (hb : b01 l = b) :
    Calls Tryz.prog 92 #[.slice A l.length c] w fun e w' => e = .returned (.bool b) ∧ w = w' := by
  rw [← hb]
  clear hb
  go_enter Tryz.func92, Tryz.ntmps92
  go_wp2
  go_loop [3] (fun i => ∃ k : Nat, k ≤ l.length ∧ i = .int .i64 k ∧ Hid (Ev.Bit01 (l.take k))) (fun i => l.length - (intOf i).toNat)
  case atStart => exact ⟨0, Nat.zero_le _, rfl, Lib.hid (by intro x hx; cases hx)⟩
  case round =>
    obtain ⟨k, hk, rfl, HG⟩ := hrel
    by_cases hlt : k < l.length
    · obtain ⟨ad, rfl, hc⟩ := Ints.at hA hlt
      have HT0 : Hid (l.take (k + 1) = l.take k ++ [l[k]]) := Lib.hid (List.take_succ_eq_append_getElem hlt)
      have HM : Hid (l[k] ∈ l) := Lib.hid (List.getElem_mem _)
      clear hA
      generalize l[k] = x at *
      by_cases h0 : x = 0
      · have b0 : (x != 0) = false := by simp [h0]
        have HG2 : Hid (Ev.Bit01 (l.take (k + 1))) := Lib.hid (by
          rw [HT0.out]; intro y hy
          rcases List.mem_append.1 hy with h | h
          · exact HG.out y h
          · simp at h; subst h; exact .inl h0)
        clear h0
        go_wp2
        go_round
        case rel => exact ⟨k + 1, by omega, by go_num, HG2⟩
        case measure => simp [intOf]; omega
      · have b0 : (x != 0) = true := by simp [h0]
        by_cases h1 : x = 1
        · have b1 : (x != 1) = false := by simp [h1]
          have HG2 : Hid (Ev.Bit01 (l.take (k + 1))) := Lib.hid (by
            rw [HT0.out]; intro y hy
            rcases List.mem_append.1 hy with h | h
            · exact HG.out y h
            · simp at h; subst h; exact .inr h1)
          clear h0 h1
          go_wp2
          go_round
          case rel => exact ⟨k + 1, by omega, by go_num, HG2⟩
          case measure => simp [intOf]; omega
        · have b1 : (x != 1) = true := by simp [h1]
          have HF : Hid (b01 l = false) := Lib.hid (bit01_bad HM.out h0 h1)
          clear h0 h1
          go_wp2
          go_ret
          exact ⟨by rw [HF.out]; rfl, rfl⟩
    · have HF : Hid (b01 l = true) := Lib.hid (b01_iff.2 (by have := HG.out; rwa [List.take_of_length_le (by omega)] at this))
      go_wp2
      go_ret
      exact ⟨by rw [HF.out]; rfl, rfl⟩
theorem dot_any (A S : Option Addr) (c d : Nat) (a s : List Int) (w : World) (hA : Ints w A a) (hS : Ints w S s) (hl : s.length ≤ a.length) (hn : s.length ≤ 64) (ha : ∀ x ∈ a, 0 ≤ x ∧ x ≤ 1048576) (hs : Ev.Bit01 s) :
    Calls Tryz.prog 93 #[.slice A a.length c, .slice S s.length d] w fun e w' => e = .returned (.int .i64 (dotN a s s.length % 2)) ∧ Dr w w' := by
  have HA := Lib.hid ha
  have HS := Lib.hid hs
  clear ha hs
  go_enter Tryz.func93, Tryz.ntmps93
  go_wp2
  go_loopw [5, 6] (fun t i wr => ∃ k : Nat, k ≤ s.length ∧ i = .int .i64 k ∧ ∃ z : Int, t = .int .i64 z ∧ 0 ≤ z ∧ z ≤ 1048576 * k ∧ Hid (z = dotN a s k) ∧ Dr w wr) (fun _ i _ => s.length - (intOf i).toNat)
  case atStart => exact ⟨0, Nat.zero_le _, rfl, 0, rfl, by omega, by omega, Lib.hid rfl, Dr.refl _⟩
  case round =>
    obtain ⟨k, hk, rfl, z, rfl, hz0, hz1, HZ, hdr⟩ := hrel
    by_cases hlt : k < s.length
    · have hlt2 : k < a.length := by omega
      obtain ⟨ad, rfl, hc1⟩ := Ints.at (hA.keep hdr.below) hlt2
      obtain ⟨sd, rfl, hc2⟩ := Ints.at (hS.keep hdr.below) hlt
      have hb1 := HA.out a[k] (List.getElem_mem _)
      have hb2 := HS.out s[k] (List.getElem_mem _)
      have HD : Hid (dotN a s (k + 1) = z + a[k] * s[k]) := Lib.hid (by rw [dotN, ← HZ.out]; simp [hlt, hlt2])
      clear hA hS
      generalize a[k] = x at *
      generalize s[k] = y at *
      obtain ⟨x0, x1⟩ := hb1
      have p0 : 0 ≤ x * y := by rcases hb2 with rfl | rfl <;> simp <;> omega
      have p1 : x * y ≤ 1048576 := by rcases hb2 with rfl | rfl <;> simp <;> omega
      have i1 : (0 : Int) ≤ (k : Int) := by omega
      have i2 : (k : Int) < (a.length : Int) := by omega
      have i3 : (k : Int) < (s.length : Int) := by omega
      have i4 : ((k : Int)).toNat = k := by omega
      have w1 : IntKind.i64.wrap (x * y) = x * y := IntWalk.i64_in _ (by omega)
      have w2 : IntKind.i64.wrap (z + x * y) = z + x * y := IntWalk.i64_in _ (by omega)
      clear hb2
      go_wp2
      go_quiet (fail)
      clear w1 w2
      go_wp2
      go_roundw
      case rel => exact ⟨k + 1, by omega, by go_num, z + x * y, rfl, by omega, by omega, Lib.hid HD.out.symm, hdr.drewN _⟩
      case measure => simp [intOf]; omega
    · obtain rfl : k = s.length := by omega
      go_wp2
      go_ret
      exact ⟨by rw [← HZ.out]; rfl, hdr⟩
theorem rcheck_any (S B : Option Addr) (cs cb : Nat) (s l : List (List Int)) (w : World) (hS : Lists w S s) (hB : Lists w B l) (hs : s.length ≤ 1000) (hl : l.length ≤ 1000) (hs2 : ∀ v ∈ s, v.length ≤ 1000) (hl2 : ∀ v ∈ l, v.length ≤ 1000) :
    Calls Tryz.prog 65 #[.slice S s.length cs, .slice B l.length cb] w fun e w' => e = .returned (.int .i64 (chk s l)) ∧ Dr w w' := by
  have HS2 := Lib.hid hs2
  have HL2 := Lib.hid hl2
  clear hs2 hl2
  go_enter Tryz.func65, Tryz.ntmps65
  go_wp2
  go_loop [5] (fun i => ∃ k : Nat, i = .int .i64 k ∧ k ≤ s.length ∧ Hid (∀ m ∈ s.take k, b01 m = true)) (fun i => s.length - (intOf i).toNat)
  case atStart => exact ⟨0, rfl, Nat.zero_le _, Lib.hid (by simp)⟩
  case round =>
    obtain ⟨k', rfl, hk', HG⟩ := hrel
    by_cases hlt' : k' < s.length
    · obtain ⟨ad, A, c, rfl, hc, hA⟩ := hS.at hlt'
      have hml := HS2.out s[k'] (List.getElem_mem _)
      have HM : Hid (s[k'] ∈ s) := Lib.hid (List.getElem_mem _)
      have HN : Hid (b01 s[k'] = true → ∀ m ∈ s.take (k' + 1), b01 m = true) := Lib.hid (all_take hlt' HG.out)
      generalize s[k'] = m at *
      by_cases hv : b01 m = true
      · have HV := Lib.hid (rbits_lit A c m w hA hml true hv)
        have HG2 := Lib.hid (HN.out hv)
        clear hv
        go_wp2_with (go_at_call 92; refine HV.out.mono ?_; rintro e w' ⟨rfl, rfl⟩)
        go_round
        case rel => exact ⟨k' + 1, by go_num, by omega, HG2⟩
        case measure => simp [intOf]; omega
      · have hv : b01 m = false := eq_false_of_ne_true hv
        have HV := Lib.hid (rbits_lit A c m w hA hml false hv)
        have HC : Hid (chk s l = 1) := Lib.hid (chk_bad (.inr ⟨m, HM.out, hv⟩))
        clear hv
        go_wp2_with (go_at_call 92; refine HV.out.mono ?_; rintro e w' ⟨rfl, rfl⟩)
        go_ret
        exact ⟨by rw [HC.out]; rfl, Dr.refl _⟩
    · have HAS : Hid (∀ m ∈ s, b01 m = true) := Lib.hid (by have := HG.out; rwa [List.take_of_length_le (by omega)] at this)
      clear HG
      go_wp2
      go_loop [6] (fun i => ∃ k : Nat, i = .int .i64 k ∧ k ≤ l.length ∧ Hid (∀ m ∈ l.take k, vldM m = true)) (fun i => l.length - (intOf i).toNat)
      case atStart => exact ⟨0, rfl, Nat.zero_le _, Lib.hid (by simp)⟩
      case round =>
        obtain ⟨k, rfl, hk, HG⟩ := hrel
        by_cases hlt : k < l.length
        · obtain ⟨ad, A, c, rfl, hc, hA⟩ := hB.at hlt
          have hml := HL2.out l[k] (List.getElem_mem _)
          have HM : Hid (l[k] ∈ l) := Lib.hid (List.getElem_mem _)
          have HN : Hid (vldM l[k] = true → ∀ m ∈ l.take (k + 1), vldM m = true) := Lib.hid (all_take hlt HG.out)
          generalize l[k] = m at *
          by_cases hv : vldM m = true
          · have HV := Lib.hid (rvld_lit A c m w hA hml true hv)
            have HG2 := Lib.hid (HN.out hv)
            clear hv
            go_wp2_with (go_at_call 86; refine HV.out.mono ?_; rintro e w' ⟨rfl, rfl⟩)
            go_round
            case rel => exact ⟨k + 1, by go_num, by omega, HG2⟩
            case measure => simp [intOf]; omega
          · have hv : vldM m = false := eq_false_of_ne_true hv
            have HV := Lib.hid (rvld_lit A c m w hA hml false hv)
            have HC : Hid (chk s l = 1) := Lib.hid (chk_bad (.inl ⟨m, HM.out, hv⟩))
            clear hv
            go_wp2_with (go_at_call 86; refine HV.out.mono ?_; rintro e w' ⟨rfl, rfl⟩)
            go_ret
            exact ⟨by rw [HC.out]; rfl, Dr.refl _⟩
        · have HAM : Hid (∀ m ∈ l, vldM m = true) := Lib.hid (by have := HG.out; rwa [List.take_of_length_le (by omega)] at this)
          clear HG
          go_wp2
          go_loopw [7] (fun i wr => ∃ k : Nat, i = .int .i64 k ∧ k ≤ s.length ∧ Hid (∀ v ∈ s.take k, ∀ m ∈ l, v.length = m.length) ∧ Dr w wr) (fun i _ => s.length - (intOf i).toNat)
          case atStart => exact ⟨0, rfl, Nat.zero_le _, Lib.hid (by simp), Dr.refl _⟩
          case round =>
            obtain ⟨j, rfl, hj, HG, hdr⟩ := hrel
            obtain ⟨wo, rfl⟩ : ∃ wo : World, wo = wr := ⟨_, rfl⟩
            by_cases hjl : j < s.length
            · obtain ⟨ad, A, c, rfl, hc, _⟩ := hS.at hjl
              have HM : Hid (s[j] ∈ s) := Lib.hid (List.getElem_mem _)
              have HN : Hid ((∀ m ∈ l, s[j].length = m.length) → ∀ v ∈ s.take (j + 1), ∀ m ∈ l, v.length = m.length) := Lib.hid (all_take (P := fun v : List Int => ∀ m ∈ l, v.length = m.length) hjl HG.out)
              have hml := HS2.out s[j] (List.getElem_mem _)
              generalize s[j] = v at *
              go_wp2
              go_loopw [8] (fun i wr => ∃ k : Nat, i = .int .i64 k ∧ k ≤ l.length ∧ Hid (∀ m ∈ l.take k, v.length = m.length) ∧ Dr w wr) (fun i _ => l.length - (intOf i).toNat)
              case atStart => exact ⟨0, rfl, Nat.zero_le _, Lib.hid (by simp), hdr⟩
              case round =>
                clear hdr
                obtain ⟨j', rfl, hj', HG', hdr⟩ := hrel
                by_cases hjl' : j' < l.length
                · obtain ⟨bd, A', c', rfl, hc', _⟩ := hB.at hjl'
                  have HM' : Hid (l[j'] ∈ l) := Lib.hid (List.getElem_mem _)
                  have HN' : Hid (v.length = l[j'].length → ∀ m ∈ l.take (j' + 1), v.length = m.length) := Lib.hid (all_take (P := fun m : List Int => v.length = m.length) hjl' HG'.out)
                  have hml' := HL2.out l[j'] (List.getElem_mem _)
                  generalize l[j'] = m at *
                  have d1 := keep_cell hdr.below hc
                  have d2 := keep_cell hdr.below hc'
                  have i1 : (0 : Int) ≤ (j : Int) := by omega
                  have i2 : (j : Int) < (s.length : Int) := by omega
                  have i3 : ((j : Int)).toNat = j := by omega
                  have i4 : (0 : Int) ≤ (j' : Int) := by omega
                  have i5 : (j' : Int) < (l.length : Int) := by omega
                  have i6 : ((j' : Int)).toNat = j' := by omega
                  by_cases he : v.length = m.length
                  · have bb : ((v.length : Int) != (m.length : Int)) = false := by simp [he]
                    have HG2 := Lib.hid (HN'.out he)
                    clear he
                    go_wp2
                    go_quiet (fail)
                    go_wp2
                    go_roundw
                    case rel => exact ⟨j' + 1, by go_num, by omega, HG2, hdr.drewN _⟩
                    case measure => simp [intOf]; omega
                  · have bb : ((v.length : Int) != (m.length : Int)) = true := by simp; omega
                    have HC : Hid (chk s l = 4) := Lib.hid (chk_diff HAM.out HAS.out ⟨v, HM.out, m, HM'.out, he⟩)
                    clear he
                    go_wp2
                    go_quiet (fail)
                    go_wp2
                    go_ret
                    exact ⟨by rw [HC.out]; rfl, hdr.drewN _⟩
                · have HG2 := Lib.hid (HN.out (by have := HG'.out; rwa [List.take_of_length_le (by omega)] at this))
                  go_wp2
                  go_roundw
                  case rel => exact ⟨j + 1, by go_num, by omega, HG2, hdr⟩
                  case measure => simp [intOf]; omega
            · have HC : Hid (chk s l = 0) := Lib.hid (chk_ok HAM.out HAS.out (by have := HG.out; rwa [List.take_of_length_le (by omega)] at this))
              go_wp2
              go_ret
              exact ⟨by rw [HC.out]; rfl, hdr⟩
end Go.Proofs.Tg
