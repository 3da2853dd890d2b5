/- Parts of the proof: C1, WD1, WD2, WD3. -/
import Derived.Laws.OwnMore
import Derived.Maps.AppendAt
import Derived.Test.YticpnfjdooileaaGreatDoorMCPP0
import Derived.Test.YticpnfjdooileaaGreatDoorMCPP2
import Derived.Test.YticpnfjdooileaaGreatDoorMCPP4
section
/- Characters and classes of monomials. Plain lists. -/
namespace Go.Ev
open Go.Gr Go.Mo
def b01 (l : List Int) : Bool := l.all fun x => x == 0 || x == 1
theorem b01_iff {l : List Int} : b01 l = true ↔ Bit01 l := by unfold b01 Bit01; simp
def badM (l : List (List Int)) : Bool := l.any fun m => !vldM m
def badS (s : List (List Int)) : Bool := s.any fun v => !b01 v
def diffL (s l : List (List Int)) : Bool := s.any fun v => l.any fun m => decide (v.length ≠ m.length)
/-- The error of sign vectors and monomials. -/
def chk (s l : List (List Int)) : Int := if badM l = true ∨ badS s = true then 1 else if diffL s l = true then 4 else 0
theorem badM_iff {l : List (List Int)} : badM l = true ↔ ∃ m ∈ l, vldM m = false := by unfold badM; simp
theorem badS_iff {l : List (List Int)} : badS l = true ↔ ∃ m ∈ l, b01 m = false := by unfold badS; simp
theorem diffL_iff {s l : List (List Int)} : diffL s l = true ↔ ∃ v ∈ s, ∃ m ∈ l, v.length ≠ m.length := by unfold diffL; simp
theorem chk_bad {s l : List (List Int)} (h : (∃ m ∈ l, vldM m = false) ∨ ∃ v ∈ s, b01 v = false) : chk s l = 1 := by
  unfold chk
  rw [if_pos (h.imp badM_iff.2 badS_iff.2)]
theorem chk_diff {s l : List (List Int)} (h1 : ∀ m ∈ l, vldM m = true) (h2 : ∀ v ∈ s, b01 v = true) (h : ∃ v ∈ s, ∃ m ∈ l, v.length ≠ m.length) : chk s l = 4 := by
  unfold chk
  rw [if_neg, if_pos (diffL_iff.2 h)]
  rw [badM_iff, badS_iff]
  rintro (⟨m, hm, e⟩ | ⟨m, hm, e⟩)
  · rw [h1 m hm] at e; cases e
  · rw [h2 m hm] at e; cases e
theorem chk_ok {s l : List (List Int)} (h1 : ∀ m ∈ l, vldM m = true) (h2 : ∀ v ∈ s, b01 v = true) (h : ∀ v ∈ s, ∀ m ∈ l, v.length = m.length) : chk s l = 0 := by
  unfold chk
  rw [if_neg, if_neg]
  · rw [diffL_iff]
    rintro ⟨v, hv, m, hm, e⟩
    exact e (h v hv m hm)
  · rw [badM_iff, badS_iff]
    rintro (⟨m, hm, e⟩ | ⟨m, hm, e⟩)
    · rw [h1 m hm] at e; cases e
    · rw [h2 m hm] at e; cases e
theorem chk_inv {s l : List (List Int)} (h : chk s l = 0) : (∀ m ∈ l, vldM m = true) ∧ (∀ v ∈ s, b01 v = true) ∧ ∀ v ∈ s, ∀ m ∈ l, v.length = m.length := by
  unfold chk at h
  split at h
  · omega
  · rename_i h1
    split at h
    · omega
    · rename_i h2
      rw [badM_iff, badS_iff] at h1
      rw [diffL_iff] at h2
      refine ⟨fun m hm => ?_, fun v hv => ?_, fun v hv m hm => ?_⟩
      · cases e : vldM m with
        | true => rfl
        | false => exact absurd (.inl ⟨m, hm, e⟩) h1
      · cases e : b01 v with
        | true => rfl
        | false => exact absurd (.inr ⟨v, hv, e⟩) h1
      · apply Classical.byContradiction
        intro e
        exact h2 ⟨v, hv, m, hm, e⟩
/-- The character of a monomial. -/
def chr (s : List (List Int)) (m : List Int) : List Int := s.map fun v => dotN m v v.length % 2
theorem chr_len (s : List (List Int)) (m : List Int) : (chr s m).length = s.length := by simp [chr]
theorem chr_bit (s : List (List Int)) (m : List Int) : ∀ x ∈ chr s m, x = 0 ∨ x = 1 := by
  intro x hx
  obtain ⟨v, _, rfl⟩ := List.mem_map.1 hx
  omega
theorem chr_odd {m v : List Int} (hv : Bit01 v) (hm : ∀ x ∈ m, 0 ≤ x) (hl : v.length = m.length) (h64 : m.length ≤ 64) : (dotN m v v.length % 2 = if size (pk v v.length &&& pk m m.length) % 2 = 1 then 1 else 0) := by
  rw [size_and m _ m.length h64, dotN_pr m v v.length hv rfl hm v.length (Nat.le_refl _), hl]
  split <;> omega
/-- The classes: keys so far and the indices of each. -/
def clsSt (ks : List (List Int)) : Nat → List (List Int) × List (List Nat)
  | 0 => ([], [])
  | i + 1 =>
    let K := (clsSt ks i).1
    let C := (clsSt ks i).2
    let k := K.idxOf (ks.getD i [])
    if k < K.length then (K, C.set k (C.getD k [] ++ [i])) else (K ++ [ks.getD i []], C ++ [[i]])
theorem clsSt_len (ks : List (List Int)) : ∀ i, (clsSt ks i).1.length = (clsSt ks i).2.length ∧ (clsSt ks i).1.length ≤ i
  | 0 => by simp [clsSt]
  | i + 1 => by
    have ih := clsSt_len ks i
    simp only [clsSt]
    split
    · simp only [List.length_set]; omega
    · simp only [List.length_append, List.length_cons, List.length_nil]; omega
theorem clsSt_old {ks : List (List Int)} {i : Nat} (h : (clsSt ks i).1.idxOf (ks.getD i []) < (clsSt ks i).1.length) : clsSt ks (i + 1) = ((clsSt ks i).1, (clsSt ks i).2.set ((clsSt ks i).1.idxOf (ks.getD i [])) ((clsSt ks i).2.getD ((clsSt ks i).1.idxOf (ks.getD i [])) [] ++ [i])) := by
  simp only [clsSt]; rw [if_pos h]
theorem clsSt_new {ks : List (List Int)} {i : Nat} (h : ¬ (clsSt ks i).1.idxOf (ks.getD i []) < (clsSt ks i).1.length) : clsSt ks (i + 1) = ((clsSt ks i).1 ++ [ks.getD i []], (clsSt ks i).2 ++ [[i]]) := by
  simp only [clsSt]; rw [if_neg h]
theorem clsSt_each (ks : List (List Int)) : ∀ i j, ((clsSt ks i).2.getD j []).length ≤ i
  | 0, j => by simp [clsSt]
  | i + 1, j => by
    have ih := clsSt_each ks i
    by_cases hc : (clsSt ks i).1.idxOf (ks.getD i []) < (clsSt ks i).1.length
    · rw [clsSt_old hc]
      have hk := (clsSt_len ks i).1
      generalize (clsSt ks i).1.idxOf (ks.getD i []) = k at *
      have h1 := ih j
      have h2 := ih k
      generalize (clsSt ks i).2 = C at *
      simp only [List.getD_eq_getElem?_getD, List.getElem?_set] at h1 h2 ⊢
      by_cases e : k = j
      · subst e
        rw [if_pos rfl, if_pos (by omega)]
        simp only [Option.getD_some, List.length_append, List.length_cons, List.length_nil]
        omega
      · rw [if_neg e]; omega
    · rw [clsSt_new hc]
      have h1 := ih j
      generalize (clsSt ks i).2 = C at *
      simp only [List.getD_eq_getElem?_getD] at h1 ⊢
      rcases Nat.lt_or_ge j C.length with h | h
      · rw [List.getElem?_append_left h]; omega
      · rw [List.getElem?_append_right h]
        cases hh : j - C.length with
        | zero => simp
        | succ z => simp
end Go.Ev
end
section
/- Walks: the check of sign vectors and monomials; characters. -/
namespace Go.Proofs.Tg
open Go.RowKit Go.Gr Go.Ev Go.Mo
set_option maxHeartbeats 2000000
set_option maxRecDepth 100000
theorem bit_same (l : List Int) : bit01 l = b01 l := rfl
theorem vld_lit (A : Option Addr) (c : Nat) (m : List Int) (w : World) (hA : Ints w A m) (hn : m.length ≤ 1000) (b : Bool) (hb : vldM m = b) :
    Calls Tryz.prog 14 #[.slice A m.length c] w fun e w' => e = .returned (.bool b) ∧ w = w' := by rw [← hb]; exact valid_any A c m w hA hn
theorem vsg_lit (A : Option Addr) (c : Nat) (m : List Int) (w : World) (hA : Ints w A m) (hn : m.length ≤ 1000) (b : Bool) (hb : b01 m = b) :
    Calls Tryz.prog 39 #[.slice A m.length c] w fun e w' => e = .returned (.bool b) ∧ w = w' := by rw [← hb, ← bit_same]; exact vsign_any A c m w hA hn
theorem all_take {α : Type} {P : α → Prop} {l : List α} {k : Nat} (hk : k < l.length) (h : ∀ x ∈ l.take k, P x) (h1 : P l[k]) : ∀ x ∈ l.take (k + 1), P x := by
  rw [List.take_succ_eq_append_getElem hk]
  intro x hx
  rcases List.mem_append.1 hx with h2 | h2
  · exact h x h2
  · simp at h2; rw [h2]; exact h1
theorem check_any (S B : Option Addr) (cs cb : Nat) (s l : List (List Int)) (w : World) (hS : Lists w S s) (hB : Lists w B l) (hs : s.length ≤ 1000) (hl : l.length ≤ 1000) (hs2 : ∀ v ∈ s, v.length ≤ 1000) (hl2 : ∀ v ∈ l, v.length ≤ 1000) :
    Calls Tryz.prog 34 #[.slice S s.length cs, .slice B l.length cb] w fun e w' => e = .returned (.int .i64 (chk s l)) ∧ w = w' := by
  have HS2 := Lib.hid hs2
  have HL2 := Lib.hid hl2
  clear hs2 hl2
  go_enter Tryz.func34, Tryz.ntmps34
  go_wp2
  go_loop [16] (fun i => ∃ k : Nat, i = .int .i64 k ∧ k ≤ l.length ∧ Hid (∀ m ∈ l.take k, vldM m = true)) (fun i => l.length - (intOf i).toNat)
  case atStart => exact ⟨0, rfl, Nat.zero_le _, Lib.hid (by simp)⟩
  case round =>
    obtain ⟨k, rfl, hk, HG⟩ := hrel
    by_cases hlt : k < l.length
    · obtain ⟨ad, A, c, rfl, hc, hA⟩ := hB.at hlt
      have hml := HL2.out l[k] (List.getElem_mem _)
      have HM : Hid (l[k] ∈ l) := Lib.hid (List.getElem_mem _)
      have HN : Hid (vldM l[k] = true → ∀ m ∈ l.take (k + 1), vldM m = true) := Lib.hid (all_take hlt HG.out)
      generalize l[k] = m at *
      by_cases hv : vldM m = true
      · have HV := Lib.hid (vld_lit A c m w hA hml true hv)
        have HG2 := Lib.hid (HN.out hv)
        clear hv
        go_wp2_with (go_at_call 14; refine HV.out.mono ?_; rintro e w' ⟨rfl, rfl⟩)
        go_round
        case rel => exact ⟨k + 1, by go_num, by omega, HG2⟩
        case measure => simp [intOf]; omega
      · have hv : vldM m = false := eq_false_of_ne_true hv
        have HV := Lib.hid (vld_lit A c m w hA hml false hv)
        have HC : Hid (chk s l = 1) := Lib.hid (chk_bad (.inl ⟨m, HM.out, hv⟩))
        clear hv
        go_wp2_with (go_at_call 14; refine HV.out.mono ?_; rintro e w' ⟨rfl, rfl⟩)
        go_ret
        exact ⟨by rw [HC.out]; rfl, rfl⟩
    · have HAM : Hid (∀ m ∈ l, vldM m = true) := Lib.hid (by have := HG.out; rwa [List.take_of_length_le (by omega)] at this)
      go_wp2
      go_loop [26] (fun i => ∃ k : Nat, i = .int .i64 k ∧ k ≤ s.length ∧ Hid (∀ m ∈ s.take k, b01 m = true)) (fun i => s.length - (intOf i).toNat)
      case atStart => exact ⟨0, rfl, Nat.zero_le _, Lib.hid (by simp)⟩
      case round =>
        clear HG
        obtain ⟨k', rfl, hk', HG⟩ := hrel
        by_cases hlt' : k' < s.length
        · obtain ⟨ad, A, c, rfl, hc, hA⟩ := hS.at hlt'
          have hml := HS2.out s[k'] (List.getElem_mem _)
          have HM : Hid (s[k'] ∈ s) := Lib.hid (List.getElem_mem _)
          have HN : Hid (b01 s[k'] = true → ∀ m ∈ s.take (k' + 1), b01 m = true) := Lib.hid (all_take hlt' HG.out)
          generalize s[k'] = m at *
          by_cases hv : b01 m = true
          · have HV := Lib.hid (vsg_lit A c m w hA hml true hv)
            have HG2 := Lib.hid (HN.out hv)
            clear hv
            go_wp2_with (go_at_call 39; refine HV.out.mono ?_; rintro e w' ⟨rfl, rfl⟩)
            go_round
            case rel => exact ⟨k' + 1, by go_num, by omega, HG2⟩
            case measure => simp [intOf]; omega
          · have hv : b01 m = false := eq_false_of_ne_true hv
            have HV := Lib.hid (vsg_lit A c m w hA hml false hv)
            have HC : Hid (chk s l = 1) := Lib.hid (chk_bad (.inr ⟨m, HM.out, hv⟩))
            clear hv
            go_wp2_with (go_at_call 39; refine HV.out.mono ?_; rintro e w' ⟨rfl, rfl⟩)
            go_ret
            exact ⟨by rw [HC.out]; rfl, rfl⟩
        · have HAS : Hid (∀ m ∈ s, b01 m = true) := Lib.hid (by have := HG.out; rwa [List.take_of_length_le (by omega)] at this)
          clear HG
          by_cases hs0 : s = []
          · have b0 : ((s.length : Int) == 0) = true := by simp [hs0]
            have HC : Hid (chk s l = 0) := Lib.hid (chk_ok HAM.out HAS.out (by rw [hs0]; intro v hv; cases hv))
            clear hs0
            go_wp2
            go_ret
            exact ⟨by rw [HC.out]; rfl, rfl⟩
          · have b0 : ((s.length : Int) == 0) = false := by simp [hs0]
            by_cases hl0 : l = []
            · have b1 : ((l.length : Int) == 0) = true := by simp [hl0]
              have HC : Hid (chk s l = 0) := Lib.hid (chk_ok HAM.out HAS.out (by rw [hl0]; intro v _ m hm; cases hm))
              clear hl0 hs0
              go_wp2
              go_ret
              exact ⟨by rw [HC.out]; rfl, rfl⟩
            · have b1 : ((l.length : Int) == 0) = false := by simp [hl0]
              have hsp : 0 < s.length := List.length_pos_iff.2 hs0
              have hlp : 0 < l.length := List.length_pos_iff.2 hl0
              obtain ⟨ad, A0, c0, rfl, hc0, _⟩ := hS.at hsp
              have hc0' : w.cell? ad = some (.slice A0 s[0].length c0) := by simpa [Addr.add] using hc0
              obtain ⟨n, hn0⟩ : ∃ n, s[0].length = n := ⟨_, rfl⟩
              have HN0 : Hid (∃ v ∈ s, v.length = n) := Lib.hid ⟨s[0], List.getElem_mem _, hn0⟩
              have HL0 : Hid (∃ m, m ∈ l) := Lib.hid ⟨l[0], List.getElem_mem _⟩
              have hnl : n ≤ 1000 := by rw [← hn0]; exact HS2.out _ (List.getElem_mem _)
              rw [hn0] at hc0'
              clear hl0 hs0 hc0 hn0
              go_wp2
              clear hc0'
              go_loop [48] (fun i => ∃ k : Nat, i = .int .i64 k ∧ k ≤ s.length ∧ Hid (∀ m ∈ s.take k, m.length = n)) (fun i => s.length - (intOf i).toNat)
              case atStart => exact ⟨0, rfl, Nat.zero_le _, Lib.hid (by simp)⟩
              case round =>
                obtain ⟨j, rfl, hj, HG⟩ := hrel
                by_cases hjl : j < s.length
                · obtain ⟨ad', A, c, he', hc, hA⟩ := hS.at hjl
                  injection he' with he'
                  subst he'
                  have HM : Hid (s[j] ∈ s) := Lib.hid (List.getElem_mem _)
                  have HN : Hid (s[j].length = n → ∀ m ∈ s.take (j + 1), m.length = n) := Lib.hid (all_take (P := fun m : List Int => m.length = n) hjl HG.out)
                  clear hA
                  generalize s[j] = m at *
                  by_cases hv : m.length = n
                  · have bb : ((m.length : Int) != (n : Int)) = false := by simp [hv]
                    have HG2 := Lib.hid (HN.out hv)
                    clear hv
                    go_wp2
                    go_round
                    case rel => exact ⟨j + 1, by go_num, by omega, HG2⟩
                    case measure => simp [intOf]; omega
                  · have bb : ((m.length : Int) != (n : Int)) = true := by simp; omega
                    have HC : Hid (chk s l = 4) := Lib.hid (by
                      obtain ⟨v0, hv0, hv1⟩ := HN0.out
                      obtain ⟨m0, hm0⟩ := HL0.out
                      refine chk_diff HAM.out HAS.out ?_
                      by_cases e : m0.length = n
                      · exact ⟨m, HM.out, m0, hm0, fun h => hv (h.trans e)⟩
                      · exact ⟨v0, hv0, m0, hm0, fun h => e (h.symm.trans hv1)⟩)
                    clear hv
                    go_wp2
                    go_ret
                    exact ⟨by rw [HC.out]; rfl, rfl⟩
                · have HSN : Hid (∀ m ∈ s, m.length = n) := Lib.hid (by have := HG.out; rwa [List.take_of_length_le (by omega)] at this)
                  clear HG
                  go_wp2
                  go_loop [59] (fun i => ∃ k : Nat, i = .int .i64 k ∧ k ≤ l.length ∧ Hid (∀ m ∈ l.take k, m.length = n)) (fun i => l.length - (intOf i).toNat)
                  case atStart => exact ⟨0, rfl, Nat.zero_le _, Lib.hid (by simp)⟩
                  case round =>
                    obtain ⟨j', rfl, hj', HG⟩ := hrel
                    by_cases hjl' : j' < l.length
                    · obtain ⟨bd, A, c, rfl, hc, hA⟩ := hB.at hjl'
                      have HM : Hid (l[j'] ∈ l) := Lib.hid (List.getElem_mem _)
                      have HN : Hid (l[j'].length = n → ∀ m ∈ l.take (j' + 1), m.length = n) := Lib.hid (all_take (P := fun m : List Int => m.length = n) hjl' HG.out)
                      have hml := HL2.out l[j'] (List.getElem_mem _)
                      clear hA
                      generalize l[j'] = m at *
                      by_cases hv : m.length = n
                      · have bb : ((m.length : Int) != (n : Int)) = false := by simp [hv]
                        have HG2 := Lib.hid (HN.out hv)
                        clear hv
                        go_wp2
                        go_round
                        case rel => exact ⟨j' + 1, by go_num, by omega, HG2⟩
                        case measure => simp [intOf]; omega
                      · have bb : ((m.length : Int) != (n : Int)) = true := by simp; omega
                        have HC : Hid (chk s l = 4) := Lib.hid (by
                          obtain ⟨v0, hv0, hv1⟩ := HN0.out
                          exact chk_diff HAM.out HAS.out ⟨v0, hv0, m, HM.out, fun h => hv (h.symm.trans hv1)⟩)
                        clear hv
                        go_wp2
                        go_ret
                        exact ⟨by rw [HC.out]; rfl, rfl⟩
                    · have HC : Hid (chk s l = 0) := Lib.hid (chk_ok HAM.out HAS.out (fun v hv m hm => by
                        have h := HG.out
                        rw [List.take_of_length_le (by omega)] at h
                        rw [HSN.out v hv, h m hm]))
                      go_wp2
                      go_ret
                      exact ⟨by rw [HC.out]; rfl, rfl⟩
end Go.Proofs.Tg
end
section
/- Walks: characters. -/
namespace Go.Proofs.Tg
open Go.RowKit Go.Gr Go.Ev Go.Mo
set_option maxHeartbeats 2000000
set_option maxRecDepth 100000
theorem fill_zero (L : List Int) (k n : Nat) (hn : L.length = n) (hk : k < n) (h : L[k] = 0) : L.take k ++ List.replicate (n - k) 0 = L.take (k + 1) ++ List.replicate (n - (k + 1)) 0 := by
  rw [List.take_succ_eq_append_getElem (by omega), h, show n - k = (n - (k + 1)) + 1 by omega, List.replicate_succ]; simp
theorem fill_set (L : List Int) (k n : Nat) (x : Int) (hn : L.length = n) (hk : k < n) (h : L[k] = x) : (L.take k ++ List.replicate (n - k) 0).set k x = L.take (k + 1) ++ List.replicate (n - (k + 1)) 0 := by
  have hl : (L.take k).length = k := by rw [List.length_take]; omega
  rw [List.take_succ_eq_append_getElem (by omega), h, show n - k = (n - (k + 1)) + 1 by omega, List.replicate_succ, List.set_append_right _ _ (by omega), hl, Nat.sub_self, List.set_cons_zero]; simp
theorem small_of_vld {m : List Int} (h : vldM m = true) : m.length ≤ 6 ∧ ∀ x ∈ m, 0 ≤ x ∧ x ≤ 24 := by
  obtain ⟨h1, h2, h3⟩ := vldM_iff.1 h
  refine ⟨h1, fun x hx => ⟨h2 x hx, ?_⟩⟩
  obtain ⟨i, hi, rfl⟩ := List.mem_iff_getElem.1 hx
  have a := sum_take_le m (i + 1) h2
  rw [sum_take_succ m i hi] at a
  have b := sum_nonneg (m.take i) (fun e he => h2 e (List.mem_of_mem_take he))
  omega
theorem char_any (S M : Option Addr) (cs cm : Nat) (s : List (List Int)) (m : List Int) (w : World) (hS : Lists w S s) (hM : Ints w M m) (hs : s.length ≤ 1000) (hm : vldM m = true) (hb : ∀ v ∈ s, b01 v = true) (hl : ∀ v ∈ s, v.length = m.length) :
    Calls Tryz.prog 35 #[.slice S s.length cs, .slice M m.length cm] w (RetNew (chr s m) w) := by
  obtain ⟨hm6, hmx⟩ := small_of_vld hm
  have HB := Lib.hid hb
  have HL := Lib.hid hl
  have HMX := Lib.hid hmx
  clear hb hl hmx
  have hmk := fun W => make_ints s.length s.length (Nat.le_refl _) (by omega) W
  have HPM := Lib.hid (pack_any M cm m w hM (by omega) (fun x hx => by have := HMX.out x hx; omega))
  have hpm : pk m m.length < 64 := by
    have := pk_lt m m.length
    have h6 : 2 ^ m.length ≤ 2 ^ 6 := Nat.pow_le_pow_right (by omega) hm6
    omega
  go_enter Tryz.func35, Tryz.ntmps35
  go_wp2_with (go_at_call 26; refine HPM.out.mono ?_; rintro e w' ⟨rfl, rfl⟩)
  clear hmk
  go_loopw [16] (fun i wr => ∃ k : Nat, k ≤ s.length ∧ i = .int .i64 k ∧ Blk wr w.heap.size 3 (iarr ((chr s m).take k ++ List.replicate (s.length - k) 0)) ∧ Below w.heap.size w wr) (fun i _ => s.length - (intOf i).toNat)
  case atStart =>
    refine ⟨0, Nat.zero_le _, rfl, ?_, (Below.refl _ _).alloc (Nat.le_refl _) _⟩
    have e : iarr ((chr s m).take 0 ++ List.replicate (s.length - 0) 0) = madeCells #[.int .i64 0] s.length := (iarr_made s.length).symm
    rw [e]
    exact Blk.new w 3 _
  case round =>
    obtain ⟨k, hk, rfl, B, hbw⟩ := hrel
    have hcl := chr_len s m
    by_cases hlt : k < s.length
    · obtain ⟨ad, A, c, rfl, hc, hA⟩ := (hS.keep hbw).at hlt
      have hbv := HB.out s[k] (List.getElem_mem _)
      have hlv := HL.out s[k] (List.getElem_mem _)
      have HCH : Hid ((chr s m)[k]'(by rw [hcl]; exact hlt) = if size (pk s[k] s[k].length &&& pk m m.length) % 2 = 1 then 1 else 0) := Lib.hid (by
        unfold chr
        rw [List.getElem_map]
        exact chr_odd (b01_iff.1 hbv) (fun x hx => (HMX.out x hx).1) hlv (by omega))
      generalize s[k] = v at *
      have HPV := Lib.hid (pack_any A c v wr hA (by omega) (fun x hx => by
        rcases b01_iff.1 hbv x hx with h | h <;> omega))
      have hpv : pk v v.length < 64 := by
        have := pk_lt v v.length
        have h6 : 2 ^ v.length ≤ 2 ^ 6 := Nat.pow_le_pow_right (by omega) (by omega)
        omega
      clear hbv hA hlv
      generalize pk v v.length = pv at *
      generalize pk m m.length = pm at *
      have hL2 : ((chr s m).take k ++ List.replicate (s.length - k) 0).length = s.length := by rw [List.length_append, List.length_take, List.length_replicate, hcl]; omega
      by_cases hod : size (pv &&& pm) % 2 = 1
      · have HO : Hid (∀ W, Calls Tryz.prog 27 #[.int .i64 pv, .int .i64 pm] W fun r w' => r = .returned (.bool true) ∧ W = w') := Lib.hid (fun W => (odd_any pv pm W (by omega) (by omega)).mono fun r w' ⟨h1, h2⟩ => ⟨by rw [h1, decide_eq_true hod], h2⟩)
        have HST : Hid (((chr s m).take k ++ List.replicate (s.length - k) 0).set k 1 = (chr s m).take (k + 1) ++ List.replicate (s.length - (k + 1)) 0) := Lib.hid (fill_set _ k _ 1 hcl hlt (by rw [HCH.out, if_pos hod]))
        have HBB := Lib.hid (B.set k (.int .i64 1))
        have c0 := B.cell k
        have f0 := B.frozen k
        rw [iarr_at _ (by rw [hL2]; exact hlt)] at c0
        generalize ((chr s m).take k ++ List.replicate (s.length - k) 0)[k]'(by rw [hL2]; exact hlt) = old at c0
        clear hod B hL2
        go_wp2_with (first
          | (go_at_call 26; (with_reducible refine HPV.out.mono ?_); rintro e w' ⟨rfl, rfl⟩)
          | (go_at_call 27; refine (HO.out _).mono ?_; rintro e w' ⟨rfl, rfl⟩))
        go_roundw
        case rel =>
          refine ⟨k + 1, by omega, by go_num, ?_, hbw.setCell (Nat.le_refl _) _⟩
          have := HBB.out
          rw [iarr_set, HST.out] at this
          exact this
        case measure => simp [intOf]; omega
      · have HO : Hid (∀ W, Calls Tryz.prog 27 #[.int .i64 pv, .int .i64 pm] W fun r w' => r = .returned (.bool false) ∧ W = w') := Lib.hid (fun W => (odd_any pv pm W (by omega) (by omega)).mono fun r w' ⟨h1, h2⟩ => ⟨by rw [h1, decide_eq_false hod], h2⟩)
        have HST : Hid ((chr s m).take k ++ List.replicate (s.length - k) 0 = (chr s m).take (k + 1) ++ List.replicate (s.length - (k + 1)) 0) := Lib.hid (fill_zero _ k _ hcl hlt (by rw [HCH.out, if_neg hod]))
        clear hod hL2
        go_wp2_with (first
          | (go_at_call 26; (with_reducible refine HPV.out.mono ?_); rintro e w' ⟨rfl, rfl⟩)
          | (go_at_call 27; refine (HO.out _).mono ?_; rintro e w' ⟨rfl, rfl⟩))
        go_roundw
        case rel => exact ⟨k + 1, by omega, by go_num, by rw [← HST.out]; exact B, hbw⟩
        case measure => simp [intOf]; omega
    · obtain rfl : k = s.length := by omega
      go_wp2
      go_ret
      refine ⟨by rw [hcl]; rfl, ?_, hbw⟩
      rw [Nat.sub_self, List.replicate_zero, List.append_nil, List.take_of_length_le (by omega)] at B
      exact B
/-- What the character of a monomial is, or the error. -/
def RetChar (s : List (List Int)) (m : List Int) (w : World) (e : Ending) (w' : World) : Prop :=
  ∃ A c, e = .returned (.tuple #[.slice A (if chk s [m] = 0 then chr s m else []).length c, .int .i64 (chk s [m])]) ∧ Ints w' A (if chk s [m] = 0 then chr s m else []) ∧ Below w.heap.size w w'
theorem sl_new {w : World} {g : Nat} {l : List Int} (h : Blk w g 3 (iarr l)) : Ints w (some ⟨g, 0, none⟩) l :=
  ⟨by simp, fun _ => ⟨_, rfl, h.lt, fun j u hu => by rw [add_lit, Nat.zero_add, h.cell j]; simpa [iarr] using hu⟩⟩
theorem lists_one {w : World} {g c : Nat} {A : Option Addr} {m : List Int} (hA : Ints w A m) (h : w.cell? ⟨g, 0, none⟩ = some (.slice A m.length c)) : Lists w (some ⟨g, 0, none⟩) [m] := by
  refine ⟨fun _ => (A, c), ⟨by simp, fun _ => ⟨_, rfl, World.block_lt_of_cell? w _ h, fun j u hu => ?_⟩⟩, fun i hi => ?_⟩
  · match j with
    | 0 =>
      have e : u = .slice A m.length c := by simpa using hu.symm
      subst e
      exact h
    | j + 1 => simp at hu
  · have : i = 0 := by simpa using hi
    subst this
    exact hA
theorem Char_any (S M : Option Addr) (cs cm : Nat) (s : List (List Int)) (m : List Int) (w : World) (hS : Lists w S s) (hM : Ints w M m) (hs : s.length ≤ 1000) (hs2 : ∀ v ∈ s, v.length ≤ 1000) (hm2 : m.length ≤ 1000) :
    Calls Tryz.prog 17 #[.slice S s.length cs, .slice M m.length cm] w (RetChar s m w) := by
  have hbA : Below w.heap.size w (w.alloc (.cells #[.slice M m.length cm] 33)) := (Below.refl _ _).alloc (Nat.le_refl _) _
  have hL1 := lists_one (hM.keep hbA) (Blk.cell (Blk.new w 33 #[.slice M m.length cm]) 0)
  have HC := Lib.hid (check_any S (some ⟨w.heap.size, 0, none⟩) cs 1 s [m] _ (hS.keep hbA) hL1 hs (by simp) hs2 (by simpa using hm2))
  clear hL1
  by_cases hz : chk s [m] = 0
  · obtain ⟨i1, i2, i3⟩ := chk_inv hz
    have HK := Lib.hid (char_any S M cs cm s m _ (hS.keep hbA) (hM.keep hbA) hs (i1 m (by simp)) i2 (fun v hv => i3 v hv m (by simp)))
    rw [hz] at HC
    have HZ := Lib.hid hz
    clear hz
    go_enter Tryz.func17, Tryz.ntmps17
    go_wp2_with (first
      | (go_at_call 34; refine HC.out.mono ?_; rintro e w' ⟨rfl, rfl⟩)
      | (go_at_call 35; refine HK.out.mono ?_; rintro e w2 ⟨rfl, hB, hb2⟩))
    go_ret2
    refine ⟨some ⟨w.heap.size + 1, 0, none⟩, (chr s m).length, ?_, ?_, hbA.trans (hb2.mono (by simp))⟩
    · rw [HZ.out, if_pos rfl]; simp
    · rw [HZ.out, if_pos rfl]
      have := sl_new hB
      simpa using this
  · have hzb : (chk s [m] != 0) = true := by simp [hz]
    have HE : Hid ((if chk s [m] = 0 then chr s m else []) = []) := Lib.hid (if_neg hz)
    clear hz
    unfold RetChar
    rw [HE.out]
    generalize chk s [m] = z at *
    go_enter Tryz.func17, Tryz.ntmps17
    go_wp2_with (go_at_call 34; refine HC.out.mono ?_; rintro e w' ⟨rfl, rfl⟩)
    go_ret2
    exact ⟨none, 0, rfl, Sl.nil _ _ _, hbA⟩
end Go.Proofs.Tg
end
section
/- A slice of slices of numbers that a call makes and lets grow: the outer row, the inner rows, all apart. -/
namespace Go.Proofs.Tg
open Go.RowKit
/-- The outer row holds the slices val j; each is a row of the call's own; no two share a block. -/
structure Fam (base : Nat) (C : Option Addr) (cc : Nat) (Cl : List (List Nat)) (val : Nat → Value) (w : World) : Prop where
  row : w.ownsRow base 33 1 (.slice C Cl.length cc) Cl.length ((List.range Cl.length).map val)
  own : ∀ j, j < Cl.length → w.ownsRow base 3 1 (val j) (Cl.getD j []).length ((Cl.getD j []).map vn)
  sep : ∀ i j, i < Cl.length → j < Cl.length → i ≠ j → (val i).ownBlock = none ∨ (val i).ownBlock ≠ (val j).ownBlock
theorem Fam.nil (base : Nat) (w : World) : Fam base none 0 [] (fun _ => .slice none 0 0) w :=
  ⟨World.ownsRow_nil _ _ _ _, fun j h => absurd h (by simp), fun i j h => absurd h (by simp)⟩
theorem Fam.keep {base : Nat} {C : Option Addr} {cc : Nat} {Cl : List (List Nat)} {val : Nat → Value} {w w' : World} (h : Fam base C cc Cl val w) (hb : Below w.heap.size w w') : Fam base C cc Cl val w' :=
  ⟨own_below h.row hb (Nat.le_refl _), fun j hj => own_below (h.own j hj) hb (Nat.le_refl _), h.sep⟩
theorem Fam.alloc {base : Nat} {C : Option Addr} {cc : Nat} {Cl : List (List Nat)} {val : Nat → Value} {w : World} (h : Fam base C cc Cl val w) (o : Obj) : Fam base C cc Cl val (w.alloc o) :=
  h.keep ((Below.refl _ _).alloc (Nat.le_refl _) o)
/-- Another block was written. -/
theorem Fam.other {base : Nat} {C : Option Addr} {cc : Nat} {Cl : List (List Nat)} {val : Nat → Value} {w w' : World} {row : Option Nat} (h : Fam base C cc Cl val w) (hg : w.grownBy w' row)
    (h1 : (Value.slice C Cl.length cc).ownBlock = none ∨ (Value.slice C Cl.length cc).ownBlock ≠ row) (h2 : ∀ j, j < Cl.length → (val j).ownBlock = none ∨ (val j).ownBlock ≠ row) : Fam base C cc Cl val w' :=
  ⟨h.row.kept hg h1, fun j hj => (h.own j hj).kept hg (h2 j hj), h.sep⟩
/-- A new, empty class. -/
theorem Fam.push {base : Nat} {C C' : Option Addr} {cc cc' : Nat} {Cl : List (List Nat)} {val : Nat → Value} {w w' : World} (h : Fam base C cc Cl val w)
    (hr : w'.ownsRow base 33 1 (.slice C' (Cl.length + 1) cc') (Cl.length + 1) ((List.range Cl.length).map val ++ [.slice none 0 0])) (hg : w.grownBy w' (Value.slice C Cl.length cc).ownBlock) :
    Fam base C' cc' (Cl ++ [[]]) (fun j => if j = Cl.length then .slice none 0 0 else val j) w' := by
  have hlen : (Cl ++ [[]]).length = Cl.length + 1 := by simp
  refine ⟨?_, fun j hj => ?_, fun i j hi hj hne => ?_⟩
  · rw [hlen]
    have e : (List.range (Cl.length + 1)).map (fun j => if j = Cl.length then Value.slice none 0 0 else val j) = (List.range Cl.length).map val ++ [.slice none 0 0] := by
      rw [List.range_succ, List.map_append]
      congr 1
      · refine List.map_congr_left fun j hj => ?_
        have := List.mem_range.1 hj
        rw [if_neg (by omega)]
      · simp
    rw [e]; exact hr
  · rw [hlen] at hj
    by_cases e : j = Cl.length
    · subst e
      rw [if_pos rfl]
      simp only [List.getD_eq_getElem?_getD, List.getElem?_append_right (Nat.le_refl _), Nat.sub_self]
      exact World.ownsRow_nil _ _ _ _
    · rw [if_neg e]
      have e2 : (Cl ++ [[]]).getD j [] = Cl.getD j [] := by
        simp only [List.getD_eq_getElem?_getD, List.getElem?_append_left (show j < Cl.length by omega)]
      rw [e2]
      exact (h.own j (by omega)).kept hg (own_ne (h.own j (by omega)) h.row (by decide))
  · rw [hlen] at hi hj
    by_cases e1 : i = Cl.length
    · rw [if_pos e1]; exact .inl rfl
    · rw [if_neg e1]
      by_cases e2 : j = Cl.length
      · rw [if_pos e2]
        cases hb : (val i).ownBlock with
        | none => exact .inl rfl
        | some g => exact .inr (by simp [Value.ownBlock])
      · rw [if_neg e2]
        exact h.sep i j (by omega) (by omega) hne
/-- A number is appended to class k and the new slice is stored. -/
theorem Fam.add {base : Nat} {g : Nat} {cc : Nat} {Cl : List (List Nat)} {val : Nat → Value} {w w' : World} {k i : Nat} {v' : Value} (h : Fam base (some ⟨g, 0, none⟩) cc Cl val w) (hk : k < Cl.length)
    (hr : w'.ownsRow base 3 1 v' ((Cl.getD k []).length + 1) ((Cl.getD k []).map vn ++ [vn i])) (hg : w.grownBy w' (val k).ownBlock) (hat : v'.ownBlock = (val k).ownBlock ∨ v'.ownBlock = some w.heap.size) :
    Fam base (some ⟨g, 0, none⟩) cc (Cl.set k (Cl.getD k [] ++ [i])) (fun j => if j = k then v' else val j) (w'.setCell ⟨g, k, none⟩ v') := by
  have hlen : (Cl.set k (Cl.getD k [] ++ [i])).length = Cl.length := by simp
  have hrow' := h.row.kept hg (own_ne h.row (h.own k hk) (by decide))
  have hst := hrow'.stored k v'
  have hgd : ∀ j, (Cl.set k (Cl.getD k [] ++ [i])).getD j [] = if j = k then Cl.getD k [] ++ [i] else Cl.getD j [] := by
    intro j
    simp only [List.getD_eq_getElem?_getD, List.getElem?_set]
    by_cases e : k = j
    · subst e; simp [hk]
    · simp [e, Ne.symm e]
  refine ⟨?_, fun j hj => ?_, fun a b ha hb hne => ?_⟩
  · rw [hlen]
    have e : (List.range Cl.length).map (fun j => if j = k then v' else val j) = ((List.range Cl.length).map val).set k v' := by
      refine List.ext_getElem (by simp) fun j h1 h2 => ?_
      simp only [List.getElem_map, List.getElem_range, List.getElem_set]
      by_cases e : k = j
      · subst e; simp
      · simp [e, Ne.symm e]
    rw [e]
    exact hst.1
  · rw [hlen] at hj
    rw [hgd]
    by_cases e : j = k
    · rw [if_pos e, if_pos e]
      have hr2 : w'.ownsRow base 3 1 v' (Cl.getD k [] ++ [i]).length ((Cl.getD k [] ++ [i]).map vn) := by simpa using hr
      exact hr2.kept hst.2 (own_ne hr2 hrow' (by decide))
    · rw [if_neg e, if_neg e]
      have h1 := (h.own j hj).kept hg (h.sep j k hj hk e)
      exact h1.kept hst.2 (own_ne h1 hrow' (by decide))
  · rw [hlen] at ha hb
    have hlt : ∀ j, j < Cl.length → (val j).ownBlock ≠ some w.heap.size := by
      intro j hj e
      have := ((h.own j hj).lt _ e).2
      omega
    by_cases e1 : a = k
    · rw [if_pos e1, if_neg (by omega)]
      rcases hat with hx | hx
      · rw [hx, ← e1]
        exact h.sep a b ha hb hne
      · right; rw [hx]; exact fun e => hlt b hb e.symm
    · rw [if_neg e1]
      by_cases e2 : b = k
      · rw [if_pos e2]
        rcases hat with hx | hx
        · rw [hx, ← e2]
          exact h.sep a b ha hb hne
        · right; rw [hx]; exact hlt a ha
      · rw [if_neg e2]
        exact h.sep a b ha hb hne
def toI (l : List Nat) : List Int := l.map fun x : Nat => (x : Int)
theorem Fam.lists {base : Nat} {C : Option Addr} {cc : Nat} {Cl : List (List Nat)} {val : Nat → Value} {w : World} (h : Fam base C cc Cl val w) : Lists w C (Cl.map toI) := by
  have hsl : ∀ j, j < Cl.length → ∃ A c, val j = .slice A (Cl.getD j []).length c ∧ Sl w A (Cl.getD j []).length 1 ((Cl.getD j []).map vn) := by
    intro j hj
    obtain ⟨A, c, h1, _, h3⟩ := Sl.of_own (h.own j hj)
    exact ⟨A, c, h1, h3⟩
  have hch : ∃ f : Nat → Option Addr × Nat, ∀ j, j < Cl.length → val j = .slice (f j).1 (Cl.getD j []).length (f j).2 ∧ Sl w (f j).1 (Cl.getD j []).length 1 ((Cl.getD j []).map vn) := by
    have : ∀ j, ∃ p : Option Addr × Nat, j < Cl.length → val j = .slice p.1 (Cl.getD j []).length p.2 ∧ Sl w p.1 (Cl.getD j []).length 1 ((Cl.getD j []).map vn) := by
      intro j
      by_cases hj : j < Cl.length
      · obtain ⟨A, c, h1⟩ := hsl j hj
        exact ⟨(A, c), fun _ => h1⟩
      · exact ⟨(none, 0), fun h => absurd h hj⟩
    exact ⟨fun j => Classical.choose (this j), fun j => Classical.choose_spec (this j)⟩
  obtain ⟨f, hf⟩ := hch
  have hgd : ∀ j, j < Cl.length → (Cl.map toI).getD j [] = toI (Cl.getD j []) := by
    intro j hj; simp [hj]
  refine ⟨f, ?_, fun j hj => ?_⟩
  · have := Sl.own h.row
    have e : ((List.range (Cl.map toI).length).map fun i => Value.slice (f i).1 ((Cl.map toI).getD i []).length (f i).2) = (List.range Cl.length).map val := by
      rw [List.length_map]
      refine List.map_congr_left fun j hj => ?_
      have hj := List.mem_range.1 hj
      rw [hgd j hj, (hf j hj).1]
      simp [toI]
    rw [e, List.length_map]
    exact this
  · have hj' : j < Cl.length := by simpa using hj
    rw [hgd j hj']
    have := (hf j hj').2
    have e : (toI (Cl.getD j [])).map vi = (Cl.getD j []).map vn := by simp [toI, vi, vn]
    show Sl w (f j).1 (toI (Cl.getD j [])).length 1 ((toI (Cl.getD j [])).map vi)
    rw [e, show (toI (Cl.getD j [])).length = (Cl.getD j []).length by simp [toI]]
    exact this
end Go.Proofs.Tg
end
