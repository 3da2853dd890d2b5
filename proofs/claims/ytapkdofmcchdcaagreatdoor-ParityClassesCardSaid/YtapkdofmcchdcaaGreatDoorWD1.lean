/- Walks: the check of sign vectors and monomials; characters. -/
import Derived.Test.YtapkdofmcchdcaaGreatDoorWB1
import Derived.Test.YtapkdofmcchdcaaGreatDoorWM1
import Derived.Test.YtapkdofmcchdcaaGreatDoorC1
namespace Go.Proofs.Tg
open Go.RowKit Go.Gr Go.Ev Go.Mo
set_option maxHeartbeats 2000000
set_option maxRecDepth 100000
theorem bit_same (l : List Int) : bit01 l = b01 l := rfl
theorem vld_lit (A : Option Addr) (c : Nat) (m : List Int) (w : World) (hA : Ints w A m) (hn : m.length ≤ 1000) (b : Bool) (hb : vldM m = b) :
    Calls Tryz.prog 37 #[.slice A m.length c] w fun e w' => e = .returned (.bool b) ∧ w = w' := by rw [← hb]; exact valid_any A c m w hA hn
theorem vsg_lit (A : Option Addr) (c : Nat) (m : List Int) (w : World) (hA : Ints w A m) (hn : m.length ≤ 1000) (b : Bool) (hb : b01 m = b) :
    Calls Tryz.prog 90 #[.slice A m.length c] w fun e w' => e = .returned (.bool b) ∧ w = w' := by rw [← hb, ← bit_same]; exact vsign_any A c m w hA hn
theorem all_take {α : Type} {P : α → Prop} {l : List α} {k : Nat} (hk : k < l.length) (h : ∀ x ∈ l.take k, P x) (h1 : P l[k]) : ∀ x ∈ l.take (k + 1), P x := by
  rw [List.take_succ_eq_append_getElem hk]
  intro x hx
  rcases List.mem_append.1 hx with h2 | h2
  · exact h x h2
  · simp at h2; rw [h2]; exact h1
theorem check_any (S B : Option Addr) (cs cb : Nat) (s l : List (List Int)) (w : World) (hS : Lists w S s) (hB : Lists w B l) (hs : s.length ≤ 1000) (hl : l.length ≤ 1000) (hs2 : ∀ v ∈ s, v.length ≤ 1000) (hl2 : ∀ v ∈ l, v.length ≤ 1000) :
    Calls Tryz.prog 63 #[.slice S s.length cs, .slice B l.length cb] w fun e w' => e = .returned (.int .i64 (chk s l)) ∧ w = w' := by
  have HS2 := Lib.hid hs2
  have HL2 := Lib.hid hl2
  clear hs2 hl2
  go_enter Tryz.func63, Tryz.ntmps63
  go_wp2
  go_loop [16] (fun i => ∃ k : Nat, i = .int .i64 k ∧ k ≤ l.length ∧ Hid (∀ m ∈ l.take k, vldM m = true)) (fun i => l.length - (intOf i).toNat)
  case atStart => exact ⟨0, rfl, Nat.zero_le _, Lib.hid (by simp)⟩
  case round =>
    obtain ⟨k, rfl, hk, HG⟩ := hrel
    by_cases hlt : k < l.length
    · obtain ⟨ad, A, c, rfl, hc, hA⟩ := hB.at hlt
      have hml := HL2.out l[k] (List.getElem_mem _)
      have HM : Hid (l[k] ∈ l) := Lib.hid (List.getElem_mem _)
      have HN : Hid (vldM l[k] = true → ∀ m ∈ l.take (k + 1), vldM m = true) := Lib.hid (all_take hlt HG.out)
      generalize l[k] = m at *
      by_cases hv : vldM m = true
      · have HV := Lib.hid (vld_lit A c m w hA hml true hv)
        have HG2 := Lib.hid (HN.out hv)
        clear hv
        go_wp2_with (go_at_call 37; refine HV.out.mono ?_; rintro e w' ⟨rfl, rfl⟩)
        go_round
        case rel => exact ⟨k + 1, by go_num, by omega, HG2⟩
        case measure => simp [intOf]; omega
      · have hv : vldM m = false := eq_false_of_ne_true hv
        have HV := Lib.hid (vld_lit A c m w hA hml false hv)
        have HC : Hid (chk s l = 1) := Lib.hid (chk_bad (.inl ⟨m, HM.out, hv⟩))
        clear hv
        go_wp2_with (go_at_call 37; refine HV.out.mono ?_; rintro e w' ⟨rfl, rfl⟩)
        go_ret
        exact ⟨by rw [HC.out]; rfl, rfl⟩
    · have HAM : Hid (∀ m ∈ l, vldM m = true) := Lib.hid (by have := HG.out; rwa [List.take_of_length_le (by omega)] at this)
      go_wp2
      go_loop [26] (fun i => ∃ k : Nat, i = .int .i64 k ∧ k ≤ s.length ∧ Hid (∀ m ∈ s.take k, b01 m = true)) (fun i => s.length - (intOf i).toNat)
      case atStart => exact ⟨0, rfl, Nat.zero_le _, Lib.hid (by simp)⟩
      case round =>
        clear HG
        obtain ⟨k', rfl, hk', HG⟩ := hrel
        by_cases hlt' : k' < s.length
        · obtain ⟨ad, A, c, rfl, hc, hA⟩ := hS.at hlt'
          have hml := HS2.out s[k'] (List.getElem_mem _)
          have HM : Hid (s[k'] ∈ s) := Lib.hid (List.getElem_mem _)
          have HN : Hid (b01 s[k'] = true → ∀ m ∈ s.take (k' + 1), b01 m = true) := Lib.hid (all_take hlt' HG.out)
          generalize s[k'] = m at *
          by_cases hv : b01 m = true
          · have HV := Lib.hid (vsg_lit A c m w hA hml true hv)
            have HG2 := Lib.hid (HN.out hv)
            clear hv
            go_wp2_with (go_at_call 90; refine HV.out.mono ?_; rintro e w' ⟨rfl, rfl⟩)
            go_round
            case rel => exact ⟨k' + 1, by go_num, by omega, HG2⟩
            case measure => simp [intOf]; omega
          · have hv : b01 m = false := eq_false_of_ne_true hv
            have HV := Lib.hid (vsg_lit A c m w hA hml false hv)
            have HC : Hid (chk s l = 1) := Lib.hid (chk_bad (.inr ⟨m, HM.out, hv⟩))
            clear hv
            go_wp2_with (go_at_call 90; refine HV.out.mono ?_; rintro e w' ⟨rfl, rfl⟩)
            go_ret
            exact ⟨by rw [HC.out]; rfl, rfl⟩
        · have HAS : Hid (∀ m ∈ s, b01 m = true) := Lib.hid (by have := HG.out; rwa [List.take_of_length_le (by omega)] at this)
          clear HG
          by_cases hs0 : s = []
          · have b0 : ((s.length : Int) == 0) = true := by simp [hs0]
            have HC : Hid (chk s l = 0) := Lib.hid (chk_ok HAM.out HAS.out (by rw [hs0]; intro v hv; cases hv))
            clear hs0
            go_wp2
            go_ret
            exact ⟨by rw [HC.out]; rfl, rfl⟩
          · have b0 : ((s.length : Int) == 0) = false := by simp [hs0]
            by_cases hl0 : l = []
            · have b1 : ((l.length : Int) == 0) = true := by simp [hl0]
              have HC : Hid (chk s l = 0) := Lib.hid (chk_ok HAM.out HAS.out (by rw [hl0]; intro v _ m hm; cases hm))
              clear hl0 hs0
              go_wp2
              go_ret
              exact ⟨by rw [HC.out]; rfl, rfl⟩
            · have b1 : ((l.length : Int) == 0) = false := by simp [hl0]
              have hsp : 0 < s.length := List.length_pos_iff.2 hs0
              have hlp : 0 < l.length := List.length_pos_iff.2 hl0
              obtain ⟨ad, A0, c0, rfl, hc0, _⟩ := hS.at hsp
              have hc0' : w.cell? ad = some (.slice A0 s[0].length c0) := by simpa [Addr.add] using hc0
              obtain ⟨n, hn0⟩ : ∃ n, s[0].length = n := ⟨_, rfl⟩
              have HN0 : Hid (∃ v ∈ s, v.length = n) := Lib.hid ⟨s[0], List.getElem_mem _, hn0⟩
              have HL0 : Hid (∃ m, m ∈ l) := Lib.hid ⟨l[0], List.getElem_mem _⟩
              have hnl : n ≤ 1000 := by rw [← hn0]; exact HS2.out _ (List.getElem_mem _)
              rw [hn0] at hc0'
              clear hl0 hs0 hc0 hn0
              go_wp2
              clear hc0'
              go_loop [48] (fun i => ∃ k : Nat, i = .int .i64 k ∧ k ≤ s.length ∧ Hid (∀ m ∈ s.take k, m.length = n)) (fun i => s.length - (intOf i).toNat)
              case atStart => exact ⟨0, rfl, Nat.zero_le _, Lib.hid (by simp)⟩
              case round =>
                obtain ⟨j, rfl, hj, HG⟩ := hrel
                by_cases hjl : j < s.length
                · obtain ⟨ad', A, c, he', hc, hA⟩ := hS.at hjl
                  injection he' with he'
                  subst he'
                  have HM : Hid (s[j] ∈ s) := Lib.hid (List.getElem_mem _)
                  have HN : Hid (s[j].length = n → ∀ m ∈ s.take (j + 1), m.length = n) := Lib.hid (all_take (P := fun m : List Int => m.length = n) hjl HG.out)
                  clear hA
                  generalize s[j] = m at *
                  by_cases hv : m.length = n
                  · have bb : ((m.length : Int) != (n : Int)) = false := by simp [hv]
                    have HG2 := Lib.hid (HN.out hv)
                    clear hv
                    go_wp2
                    go_round
                    case rel => exact ⟨j + 1, by go_num, by omega, HG2⟩
                    case measure => simp [intOf]; omega
                  · have bb : ((m.length : Int) != (n : Int)) = true := by simp; omega
                    have HC : Hid (chk s l = 4) := Lib.hid (by
                      obtain ⟨v0, hv0, hv1⟩ := HN0.out
                      obtain ⟨m0, hm0⟩ := HL0.out
                      refine chk_diff HAM.out HAS.out ?_
                      by_cases e : m0.length = n
                      · exact ⟨m, HM.out, m0, hm0, fun h => hv (h.trans e)⟩
                      · exact ⟨v0, hv0, m0, hm0, fun h => e (h.symm.trans hv1)⟩)
                    clear hv
                    go_wp2
                    go_ret
                    exact ⟨by rw [HC.out]; rfl, rfl⟩
                · have HSN : Hid (∀ m ∈ s, m.length = n) := Lib.hid (by have := HG.out; rwa [List.take_of_length_le (by omega)] at this)
                  clear HG
                  go_wp2
                  go_loop [59] (fun i => ∃ k : Nat, i = .int .i64 k ∧ k ≤ l.length ∧ Hid (∀ m ∈ l.take k, m.length = n)) (fun i => l.length - (intOf i).toNat)
                  case atStart => exact ⟨0, rfl, Nat.zero_le _, Lib.hid (by simp)⟩
                  case round =>
                    obtain ⟨j', rfl, hj', HG⟩ := hrel
                    by_cases hjl' : j' < l.length
                    · obtain ⟨bd, A, c, rfl, hc, hA⟩ := hB.at hjl'
                      have HM : Hid (l[j'] ∈ l) := Lib.hid (List.getElem_mem _)
                      have HN : Hid (l[j'].length = n → ∀ m ∈ l.take (j' + 1), m.length = n) := Lib.hid (all_take (P := fun m : List Int => m.length = n) hjl' HG.out)
                      have hml := HL2.out l[j'] (List.getElem_mem _)
                      clear hA
                      generalize l[j'] = m at *
                      by_cases hv : m.length = n
                      · have bb : ((m.length : Int) != (n : Int)) = false := by simp [hv]
                        have HG2 := Lib.hid (HN.out hv)
                        clear hv
                        go_wp2
                        go_round
                        case rel => exact ⟨j' + 1, by go_num, by omega, HG2⟩
                        case measure => simp [intOf]; omega
                      · have bb : ((m.length : Int) != (n : Int)) = true := by simp; omega
                        have HC : Hid (chk s l = 4) := Lib.hid (by
                          obtain ⟨v0, hv0, hv1⟩ := HN0.out
                          exact chk_diff HAM.out HAS.out ⟨v0, hv0, m, HM.out, fun h => hv (h.symm.trans hv1)⟩)
                        clear hv
                        go_wp2
                        go_ret
                        exact ⟨by rw [HC.out]; rfl, rfl⟩
                    · have HC : Hid (chk s l = 0) := Lib.hid (chk_ok HAM.out HAS.out (fun v hv m hm => by
                        have h := HG.out
                        rw [List.take_of_length_le (by omega)] at h
                        rw [HSN.out v hv, h m hm]))
                      go_wp2
                      go_ret
                      exact ⟨by rw [HC.out]; rfl, rfl⟩
end Go.Proofs.Tg
