/- Plain mathematics of an insertion sort by exchanges. -/
namespace Go.Gr
/-- The elements j - 1 and j are exchanged. -/
def swp (l : List Nat) (j : Nat) : List Nat := (l.set j (l.getD (j - 1) 0)).set (j - 1) (l.getD j 0)
theorem swp_len (l : List Nat) (j : Nat) : (swp l j).length = l.length := by simp [swp]
theorem swp_at {l : List Nat} {j : Nat} (h0 : 0 < j) (hj : j < l.length) (k : Nat) : (swp l j).getD k 0 = if k = j - 1 then l.getD j 0 else if k = j then l.getD (j - 1) 0 else l.getD k 0 := by
  unfold swp
  by_cases hk : k < l.length
  · simp only [List.getD_eq_getElem?_getD]
    rw [List.getElem?_set]
    by_cases h1 : j - 1 = k
    · rw [if_pos h1, if_pos (by simp; omega), if_pos h1.symm]; rfl
    · rw [if_neg h1, if_neg (fun e => h1 e.symm), List.getElem?_set]
      by_cases h2 : j = k
      · rw [if_pos h2, if_pos (by omega), if_pos h2.symm]; rfl
      · rw [if_neg h2, if_neg (fun e => h2 e.symm)]
  · have h1 : (((l.set j (l.getD (j - 1) 0)).set (j - 1) (l.getD j 0)).getD k 0) = 0 := by
      rw [List.getD_eq_getElem?_getD, List.getElem?_eq_none (by simp; omega)]; rfl
    rw [h1, if_neg (by omega), if_neg (by omega), List.getD_eq_getElem?_getD, List.getElem?_eq_none (by omega)]; rfl
theorem swp_perm {l : List Nat} {j : Nat} (h0 : 0 < j) (hj : j < l.length) : (swp l j).Perm l := by
  obtain ⟨a, x, y, b, rfl, ha⟩ : ∃ a x y b, l = a ++ x :: y :: b ∧ a.length = j - 1 := by
    refine ⟨l.take (j - 1), l[j - 1], l[j], l.drop (j + 1), ?_, by simp; omega⟩
    have h1 : l.drop (j - 1) = l[j - 1] :: l.drop j := by
      rw [List.drop_eq_getElem_cons (by omega), show j - 1 + 1 = j by omega]
    have h2 : l.drop j = l[j] :: l.drop (j + 1) := List.drop_eq_getElem_cons hj
    rw [← h2, ← h1, List.take_append_drop]
  have e : swp (a ++ x :: y :: b) j = a ++ y :: x :: b := by
    apply List.ext_getElem?
    intro k
    have hl : (swp (a ++ x :: y :: b) j).length = (a ++ y :: x :: b).length := by simp [swp_len]
    by_cases hk : k < (a ++ x :: y :: b).length
    · have := swp_at h0 hj k
      have g1 : (swp (a ++ x :: y :: b) j)[k]? = some ((swp (a ++ x :: y :: b) j).getD k 0) := by
        rw [List.getD_eq_getElem?_getD, List.getElem?_eq_getElem (by rw [swp_len]; exact hk)]; rfl
      rw [g1, this]
      have hx : (a ++ x :: y :: b).getD (j - 1) 0 = x := by rw [List.getD_eq_getElem?_getD, List.getElem?_append_right (by omega), ha, Nat.sub_self]; rfl
      have hy : (a ++ x :: y :: b).getD j 0 = y := by rw [List.getD_eq_getElem?_getD, List.getElem?_append_right (by omega), ha, show j - (j - 1) = 1 by omega]; rfl
      rw [hx, hy]
      by_cases e1 : k = j - 1
      · rw [if_pos e1, e1, List.getElem?_append_right (by omega), ha, Nat.sub_self]; rfl
      · by_cases e2 : k = j
        · rw [if_neg e1, if_pos e2, e2, List.getElem?_append_right (by omega), ha, show j - (j - 1) = 1 by omega]; rfl
        · rw [if_neg e1, if_neg e2, List.getD_eq_getElem?_getD]
          by_cases e3 : k < a.length
          · rw [List.getElem?_append_left e3, List.getElem?_append_left e3, List.getElem?_eq_getElem e3]; rfl
          · rw [List.getElem?_append_right (by omega), List.getElem?_append_right (by omega)]
            obtain ⟨q, hq⟩ : ∃ q, k - a.length = q + 2 := ⟨k - a.length - 2, by omega⟩
            rw [hq]
            simp only [List.getElem?_cons_succ]
            rw [List.getElem?_eq_getElem (by simp at hk; omega)]; rfl
    · rw [List.getElem?_eq_none (by rw [swp_len]; omega), List.getElem?_eq_none (by simp at hk ⊢; omega)]
  rw [e]
  exact List.Perm.append_left a (List.Perm.swap x y b)

/-- 'less' by a comparison, in every pair of indexes below i but those that end in j. -/
def sortedBut (cf : Nat → Nat → Int) (l : List Nat) (i j : Nat) : Prop := ∀ a b, a < b → b ≤ i → b ≠ j → ¬ cf (l.getD b 0) (l.getD a 0) < 0
def sortedTo (cf : Nat → Nat → Int) (l : List Nat) (i : Nat) : Prop := ∀ a b, a < b → b < i → ¬ cf (l.getD b 0) (l.getD a 0) < 0
structure Weak (cf : Nat → Nat → Int) : Prop where
  asym : ∀ x y, cf x y < 0 → ¬ cf y x < 0
  trans : ∀ x y z, ¬ cf y x < 0 → ¬ cf z y < 0 → ¬ cf z x < 0
theorem sortedBut_start {cf : Nat → Nat → Int} {l : List Nat} {i : Nat} (h : sortedTo cf l i) : sortedBut cf l i i := fun a b hab hb hne => h a b hab (by omega)
theorem sortedBut_swap {cf : Nat → Nat → Int} (hw : Weak cf) {l : List Nat} {i j : Nat} (h : sortedBut cf l i j) (h0 : 0 < j) (hji : j ≤ i) (hi : i < l.length) (hc : cf (l.getD j 0) (l.getD (j - 1) 0) < 0) : sortedBut cf (swp l j) i (j - 1) := by
  intro a b hab hb hne
  rw [swp_at h0 (by omega), swp_at h0 (by omega)]
  rw [if_neg hne]
  by_cases hbj : b = j
  · rw [if_pos hbj]
    by_cases ha : a = j - 1
    · rw [if_pos ha]; exact hw.asym _ _ hc
    · rw [if_neg ha, if_neg (by omega)]
      exact h a (j - 1) (by omega) (by omega) (by omega)
  · rw [if_neg hbj]
    by_cases ha : a = j - 1
    · rw [if_pos ha]; exact h j b (by omega) hb hbj
    · rw [if_neg ha]
      by_cases ha2 : a = j
      · rw [if_pos ha2]; exact h (j - 1) b (by omega) hb hbj
      · rw [if_neg ha2]; exact h a b hab hb hbj
theorem sortedBut_stop {cf : Nat → Nat → Int} (hw : Weak cf) {l : List Nat} {i j : Nat} (h : sortedBut cf l i j) (hc : j = 0 ∨ ¬ cf (l.getD j 0) (l.getD (j - 1) 0) < 0) : sortedTo cf l (i + 1) := by
  intro a b hab hb
  by_cases hbj : b = j
  · subst hbj
    rcases hc with hc | hc
    · omega
    · by_cases ha : a = b - 1
      · rw [ha]; exact hc
      · exact hw.trans _ _ _ (h a (b - 1) (by omega) (by omega) (by omega)) hc
  · exact h a b hab (by omega) hbj

/-- Slices are compared by their first element that differs, and a slice comes ahead of its continuations. -/
def cmpL : List Int → List Int → Int
  | [], [] => 0
  | [], _ :: _ => -1
  | _ :: _, [] => 1
  | a :: l, b :: m => if a < b then -1 else if b < a then 1 else cmpL l m
theorem cmpL_asym : ∀ x y, cmpL x y < 0 → ¬ cmpL y x < 0
  | [], [], h => by simp [cmpL] at h
  | [], _ :: _, _ => by simp [cmpL]
  | _ :: _, [], h => by simp [cmpL] at h
  | a :: l, b :: m, h => by
    unfold cmpL at h ⊢
    by_cases h1 : a < b
    · rw [if_neg (by omega), if_pos h1]; omega
    · rw [if_neg h1] at h
      by_cases h2 : b < a
      · rw [if_pos h2] at h; omega
      · rw [if_neg h2] at h
        rw [if_neg h2, if_neg h1]
        exact cmpL_asym l m h
theorem cmpL_trans : ∀ x y z, ¬ cmpL y x < 0 → ¬ cmpL z y < 0 → ¬ cmpL z x < 0
  | [], _, [], _, _ => by simp [cmpL]
  | [], _, _ :: _, _, _ => by simp [cmpL]
  | a :: l, [], z, h, _ => by simp [cmpL] at h
  | a :: l, b :: m, [], _, h => by simp [cmpL] at h
  | a :: l, b :: m, c :: n, h1, h2 => by
    unfold cmpL at h1 h2 ⊢
    by_cases p1 : b < a
    · rw [if_pos p1] at h1; omega
    · rw [if_neg p1] at h1
      by_cases q1 : c < b
      · rw [if_pos q1] at h2; omega
      · rw [if_neg q1] at h2
        rw [if_neg (by omega)]
        by_cases r1 : a < c
        · rw [if_pos r1]; omega
        · rw [if_neg r1]
          rw [if_neg (by omega)] at h1 h2
          exact cmpL_trans l m n h1 h2
end Go.Gr
