/- Characters and classes of monomials. Plain lists. -/
import Derived.Test.YtapkdofmcchdcaaGreatDoorE2
import Derived.Test.YtapkdofmcchdcaaGreatDoorM1
namespace Go.Ev
open Go.Gr Go.Mo
def b01 (l : List Int) : Bool := l.all fun x => x == 0 || x == 1
theorem b01_iff {l : List Int} : b01 l = true ↔ Bit01 l := by unfold b01 Bit01; simp
def badM (l : List (List Int)) : Bool := l.any fun m => !vldM m
def badS (s : List (List Int)) : Bool := s.any fun v => !b01 v
def diffL (s l : List (List Int)) : Bool := s.any fun v => l.any fun m => decide (v.length ≠ m.length)
/-- The error of sign vectors and monomials. -/
def chk (s l : List (List Int)) : Int := if badM l = true ∨ badS s = true then 1 else if diffL s l = true then 4 else 0
theorem badM_iff {l : List (List Int)} : badM l = true ↔ ∃ m ∈ l, vldM m = false := by unfold badM; simp
theorem badS_iff {l : List (List Int)} : badS l = true ↔ ∃ m ∈ l, b01 m = false := by unfold badS; simp
theorem diffL_iff {s l : List (List Int)} : diffL s l = true ↔ ∃ v ∈ s, ∃ m ∈ l, v.length ≠ m.length := by unfold diffL; simp
theorem chk_bad {s l : List (List Int)} (h : (∃ m ∈ l, vldM m = false) ∨ ∃ v ∈ s, b01 v = false) : chk s l = 1 := by
  unfold chk
  rw [if_pos (h.imp badM_iff.2 badS_iff.2)]
theorem chk_diff {s l : List (List Int)} (h1 : ∀ m ∈ l, vldM m = true) (h2 : ∀ v ∈ s, b01 v = true) (h : ∃ v ∈ s, ∃ m ∈ l, v.length ≠ m.length) : chk s l = 4 := by
  unfold chk
  rw [if_neg, if_pos (diffL_iff.2 h)]
  rw [badM_iff, badS_iff]
  rintro (⟨m, hm, e⟩ | ⟨m, hm, e⟩)
  · rw [h1 m hm] at e; cases e
  · rw [h2 m hm] at e; cases e
theorem chk_ok {s l : List (List Int)} (h1 : ∀ m ∈ l, vldM m = true) (h2 : ∀ v ∈ s, b01 v = true) (h : ∀ v ∈ s, ∀ m ∈ l, v.length = m.length) : chk s l = 0 := by
  unfold chk
  rw [if_neg, if_neg]
  · rw [diffL_iff]
    rintro ⟨v, hv, m, hm, e⟩
    exact e (h v hv m hm)
  · rw [badM_iff, badS_iff]
    rintro (⟨m, hm, e⟩ | ⟨m, hm, e⟩)
    · rw [h1 m hm] at e; cases e
    · rw [h2 m hm] at e; cases e
theorem chk_inv {s l : List (List Int)} (h : chk s l = 0) : (∀ m ∈ l, vldM m = true) ∧ (∀ v ∈ s, b01 v = true) ∧ ∀ v ∈ s, ∀ m ∈ l, v.length = m.length := by
  unfold chk at h
  split at h
  · omega
  · rename_i h1
    split at h
    · omega
    · rename_i h2
      rw [badM_iff, badS_iff] at h1
      rw [diffL_iff] at h2
      refine ⟨fun m hm => ?_, fun v hv => ?_, fun v hv m hm => ?_⟩
      · cases e : vldM m with
        | true => rfl
        | false => exact absurd (.inl ⟨m, hm, e⟩) h1
      · cases e : b01 v with
        | true => rfl
        | false => exact absurd (.inr ⟨v, hv, e⟩) h1
      · apply Classical.byContradiction
        intro e
        exact h2 ⟨v, hv, m, hm, e⟩
/-- The character of a monomial. -/
def chr (s : List (List Int)) (m : List Int) : List Int := s.map fun v => dotN m v v.length % 2
theorem chr_len (s : List (List Int)) (m : List Int) : (chr s m).length = s.length := by simp [chr]
theorem chr_bit (s : List (List Int)) (m : List Int) : ∀ x ∈ chr s m, x = 0 ∨ x = 1 := by
  intro x hx
  obtain ⟨v, _, rfl⟩ := List.mem_map.1 hx
  omega
theorem chr_odd {m v : List Int} (hv : Bit01 v) (hm : ∀ x ∈ m, 0 ≤ x) (hl : v.length = m.length) (h64 : m.length ≤ 64) : (dotN m v v.length % 2 = if size (pk v v.length &&& pk m m.length) % 2 = 1 then 1 else 0) := by
  rw [size_and m _ m.length h64, dotN_pr m v v.length hv rfl hm v.length (Nat.le_refl _), hl]
  split <;> omega
/-- The classes: keys so far and the indices of each. -/
def clsSt (ks : List (List Int)) : Nat → List (List Int) × List (List Nat)
  | 0 => ([], [])
  | i + 1 =>
    let K := (clsSt ks i).1
    let C := (clsSt ks i).2
    let k := K.idxOf (ks.getD i [])
    if k < K.length then (K, C.set k (C.getD k [] ++ [i])) else (K ++ [ks.getD i []], C ++ [[i]])
theorem clsSt_len (ks : List (List Int)) : ∀ i, (clsSt ks i).1.length = (clsSt ks i).2.length ∧ (clsSt ks i).1.length ≤ i
  | 0 => by simp [clsSt]
  | i + 1 => by
    have ih := clsSt_len ks i
    simp only [clsSt]
    split
    · simp only [List.length_set]; omega
    · simp only [List.length_append, List.length_cons, List.length_nil]; omega
theorem clsSt_old {ks : List (List Int)} {i : Nat} (h : (clsSt ks i).1.idxOf (ks.getD i []) < (clsSt ks i).1.length) : clsSt ks (i + 1) = ((clsSt ks i).1, (clsSt ks i).2.set ((clsSt ks i).1.idxOf (ks.getD i [])) ((clsSt ks i).2.getD ((clsSt ks i).1.idxOf (ks.getD i [])) [] ++ [i])) := by
  simp only [clsSt]; rw [if_pos h]
theorem clsSt_new {ks : List (List Int)} {i : Nat} (h : ¬ (clsSt ks i).1.idxOf (ks.getD i []) < (clsSt ks i).1.length) : clsSt ks (i + 1) = ((clsSt ks i).1 ++ [ks.getD i []], (clsSt ks i).2 ++ [[i]]) := by
  simp only [clsSt]; rw [if_neg h]
theorem clsSt_each (ks : List (List Int)) : ∀ i j, ((clsSt ks i).2.getD j []).length ≤ i
  | 0, j => by simp [clsSt]
  | i + 1, j => by
    have ih := clsSt_each ks i
    by_cases hc : (clsSt ks i).1.idxOf (ks.getD i []) < (clsSt ks i).1.length
    · rw [clsSt_old hc]
      have hk := (clsSt_len ks i).1
      generalize (clsSt ks i).1.idxOf (ks.getD i []) = k at *
      have h1 := ih j
      have h2 := ih k
      generalize (clsSt ks i).2 = C at *
      simp only [List.getD_eq_getElem?_getD, List.getElem?_set] at h1 h2 ⊢
      by_cases e : k = j
      · subst e
        rw [if_pos rfl, if_pos (by omega)]
        simp only [Option.getD_some, List.length_append, List.length_cons, List.length_nil]
        omega
      · rw [if_neg e]; omega
    · rw [clsSt_new hc]
      have h1 := ih j
      generalize (clsSt ks i).2 = C at *
      simp only [List.getD_eq_getElem?_getD] at h1 ⊢
      rcases Nat.lt_or_ge j C.length with h | h
      · rw [List.getElem?_append_left h]; omega
      · rw [List.getElem?_append_right h]
        cases hh : j - C.length with
        | zero => simp
        | succ z => simp
end Go.Ev
