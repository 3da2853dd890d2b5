/- Plain functions for the tree of cliques. -/
import Derived.Test.YtamipjpcphghaaaDoorSpec
namespace Go.Gr
/-- The first k numbers are from 0 to 63 and ascend. -/
def ascTo (l : List Int) (k : Nat) : Prop := ∀ i (h : i < l.length), i < k → (0 ≤ l[i] ∧ l[i] < 64) ∧ (0 < i → l[i - 1]'(by omega) < l[i])
def asc (l : List Int) : Prop := ascTo l l.length
def setOf (l : List Int) : Nat := l.foldl (fun s v => bset s v.toNat) 0
theorem setOf_snoc (l : List Int) (v : Int) : setOf (l ++ [v]) = bset (setOf l) v.toNat := by simp [setOf]
theorem ascTo_succ {l : List Int} {k : Nat} (hk : k < l.length) (h : ascTo l k) (h1 : 0 ≤ l[k] ∧ l[k] < 64) (h2 : 0 < k → l[k - 1]'(by omega) < l[k]) : ascTo l (k + 1) := by
  intro i hi hik
  by_cases e : i = k
  · subst e; exact ⟨h1, h2⟩
  · exact h i hi (by omega)
theorem setOf_small {l : List Int} (h : asc l) : setOf l < 18446744073709551616 := by
  have : ∀ k, k ≤ l.length → setOf (l.take k) < 18446744073709551616 := by
    intro k
    induction k with
    | zero => intro _; simp [setOf]
    | succ k ih =>
      intro hk
      rw [List.take_succ_eq_append_getElem (by omega), setOf_snoc]
      have := (h k (by omega) (by omega)).1
      exact bset_lt (ih (by omega)) (by omega)
  have := this l.length (Nat.le_refl _)
  rwa [List.take_length] at this
/-- One pair of sets is looked at: i outside the tree, k inside. -/
def pairStep (sets : List Nat) (inT i : Nat) (b : Int × Int × Int) (k : Nat) : Int × Int × Int :=
  if inT.testBit i = false ∧ inT.testBit k = true ∧ b.2.2 < ((size (sets.getD i 0 &&& sets.getD k 0) : Nat) : Int) then ((i : Int), (k : Int), ((size (sets.getD i 0 &&& sets.getD k 0) : Nat) : Int)) else b
def rowTo (sets : List Nat) (inT i : Nat) (b : Int × Int × Int) (k : Nat) : Int × Int × Int := (List.range k).foldl (pairStep sets inT i) b
theorem rowTo_succ (sets : List Nat) (inT i : Nat) (b : Int × Int × Int) (k : Nat) : rowTo sets inT i b (k + 1) = pairStep sets inT i (rowTo sets inT i b k) k := by
  simp [rowTo, List.range_succ, List.foldl_append]
def allTo (sets : List Nat) (inT m : Nat) : Nat → Int × Int × Int
  | 0 => (-1, -1, -1)
  | i + 1 => rowTo sets inT i (allTo sets inT m i) m
/-- Whatever is chosen is a set outside the tree with one inside; and something is chosen if there is a pair. -/
def okBest (inT m : Nat) (b : Int × Int × Int) : Prop := b = (-1, -1, -1) ∨ ∃ i k c : Nat, i < m ∧ k < m ∧ inT.testBit i = false ∧ inT.testBit k = true ∧ b = ((i : Int), (k : Int), (c : Int))
theorem okBest_pair {sets : List Nat} {inT m i k : Nat} {b : Int × Int × Int} (h : okBest inT m b) (hi : i < m) (hk : k < m) : okBest inT m (pairStep sets inT i b k) := by
  unfold pairStep
  split
  · rename_i hc
    exact .inr ⟨i, k, _, hi, hk, hc.1, hc.2.1, rfl⟩
  · exact h
theorem okBest_row {sets : List Nat} {inT m i : Nat} {b : Int × Int × Int} (h : okBest inT m b) (hi : i < m) : ∀ k, k ≤ m → okBest inT m (rowTo sets inT i b k)
  | 0, _ => h
  | k + 1, hk => by rw [rowTo_succ]; exact okBest_pair (okBest_row h hi k (by omega)) hi (by omega)
theorem okBest_all {sets : List Nat} {inT m : Nat} : ∀ i, i ≤ m → okBest inT m (allTo sets inT m i)
  | 0, _ => .inl rfl
  | i + 1, hi => okBest_row (okBest_all i (by omega)) (by omega) m (Nat.le_refl _)
theorem pair_mono {sets : List Nat} {inT i k : Nat} {b : Int × Int × Int} : b.2.2 ≤ (pairStep sets inT i b k).2.2 := by
  unfold pairStep
  split
  · rename_i hc; have := hc.2.2; dsimp only; omega
  · exact Int.le_refl _
theorem row_mono {sets : List Nat} {inT i : Nat} {b : Int × Int × Int} : ∀ k, b.2.2 ≤ (rowTo sets inT i b k).2.2
  | 0 => Int.le_refl _
  | k + 1 => by rw [rowTo_succ]; exact Int.le_trans (row_mono k) pair_mono
theorem row_finds {sets : List Nat} {inT i k : Nat} {b : Int × Int × Int} (hi : inT.testBit i = false) (hk : inT.testBit k = true) : ∀ m, k < m → 0 ≤ (rowTo sets inT i b m).2.2
  | 0, h => by omega
  | m + 1, h => by
    rw [rowTo_succ]
    by_cases e : k = m
    · subst e
      unfold pairStep
      split
      · dsimp only; omega
      · rename_i hc
        by_cases h2 : (rowTo sets inT i b k).2.2 < ((size (sets.getD i 0 &&& sets.getD k 0) : Nat) : Int)
        · exact absurd ⟨hi, hk, h2⟩ hc
        · omega
    · exact Int.le_trans (row_finds hi hk m (by omega)) pair_mono
theorem all_mono {sets : List Nat} {inT m : Nat} (i : Nat) : (allTo sets inT m i).2.2 ≤ (allTo sets inT m (i + 1)).2.2 := row_mono m
theorem all_finds {sets : List Nat} {inT m i k : Nat} (hi : inT.testBit i = false) (hk : inT.testBit k = true) (hkm : k < m) : ∀ q, i < q → 0 ≤ (allTo sets inT m q).2.2
  | 0, h => by omega
  | q + 1, h => by
    by_cases e : i = q
    · subst e; exact row_finds hi hk m hkm
    · exact Int.le_trans (all_finds hi hk hkm q (by omega)) (all_mono q)
/-- The sets in the tree, and the parents, after r rounds. -/
def treeTo (sets : List Nat) : Nat → Nat × List Int
  | 0 => (bset 0 0, List.replicate sets.length (-1))
  | r + 1 =>
    let b := allTo sets (treeTo sets r).1 sets.length sets.length
    (bset (treeTo sets r).1 b.1.toNat, if 0 < b.2.2 then (treeTo sets r).2.set b.1.toNat b.2.1 else (treeTo sets r).2)
def tree (sets : List Nat) : List Int := (treeTo sets (sets.length - 1)).2
structure Grows (sets : List Nat) (r : Nat) : Prop where
  zero : (treeTo sets r).1.testBit 0 = true
  lt : ∀ i, (treeTo sets r).1.testBit i = true → i < sets.length
  few : ((List.range sets.length).filter (treeTo sets r).1.testBit).length ≤ r + 1
  small : (treeTo sets r).1 < 18446744073709551616
  len : (treeTo sets r).2.length = sets.length
theorem filter_more {p q : Nat → Bool} {b : Nat} (hq : ∀ i, q i = (p i || decide (b = i))) : ∀ n, ((List.range n).filter q).length ≤ ((List.range n).filter p).length + 1 := by
  have key : ∀ n, ((List.range n).filter q).length ≤ ((List.range n).filter p).length + (if b < n then 1 else 0) := by
    intro n
    induction n with
    | zero => simp
    | succ n ih =>
      rw [List.range_succ, List.filter_append, List.filter_append, List.length_append, List.length_append]
      by_cases e : b = n
      · subst e
        have h1 : (List.filter q [b]).length ≤ 1 := List.length_filter_le _ _
        simp only [Nat.lt_irrefl, if_false, show b < b + 1 from by omega, if_true] at ih ⊢
        omega
      · have : q n = p n := by rw [hq]; simp [e]
        have h2 : (List.filter q [n]).length = (List.filter p [n]).length := by simp [List.filter_cons, this]
        by_cases hb : b < n
        · simp only [hb, if_true, show b < n + 1 from by omega] at ih ⊢; omega
        · simp only [hb, if_false, show ¬ b < n + 1 from by omega] at ih ⊢; omega
  intro n
  have := key n
  split at this <;> omega
theorem tree_best {sets : List Nat} {r : Nat} (h : Grows sets r) (hr : r + 1 < sets.length) : ∃ i k c : Nat, i < sets.length ∧ k < sets.length ∧ (treeTo sets r).1.testBit i = false ∧ (treeTo sets r).1.testBit k = true ∧
    allTo sets (treeTo sets r).1 sets.length sets.length = ((i : Int), (k : Int), (c : Int)) := by
  rcases okBest_all (sets := sets) (inT := (treeTo sets r).1) (m := sets.length) sets.length (Nat.le_refl _) with h2 | h2
  · exfalso
    have hex : ∃ i, i < sets.length ∧ (treeTo sets r).1.testBit i = false := by
      by_cases hh : ∃ i, i < sets.length ∧ (treeTo sets r).1.testBit i = false
      · exact hh
      · exfalso
        have : (List.range sets.length).filter (treeTo sets r).1.testBit = List.range sets.length := List.filter_eq_self.2 (fun i hi => by
          by_cases hb : (treeTo sets r).1.testBit i = true
          · exact hb
          · exact absurd ⟨i, by simpa using hi, by simpa using hb⟩ hh)
        have hf := h.few
        rw [this, List.length_range] at hf
        omega
    obtain ⟨i, hi, hf⟩ := hex
    have := all_finds (sets := sets) hf h.zero (m := sets.length) (by omega) sets.length hi
    rw [h2] at this
    simp at this
  · exact h2
theorem grows {sets : List Nat} (hm : sets.length ≤ 64) (h0 : 0 < sets.length) : ∀ r, r + 1 ≤ sets.length → Grows sets r
  | 0, _ => by
    refine ⟨by unfold treeTo; rw [bset_bit]; simp, ?_, ?_, ?_, by simp [treeTo]⟩
    · intro i hi
      simp [treeTo, bset_bit] at hi
      omega
    · have := filter_more (p := fun _ => false) (q := (treeTo sets 0).1.testBit) (b := 0) (fun i => by simp [treeTo, bset_bit]) sets.length
      have e : ((List.range sets.length).filter fun _ => false) = [] := List.filter_eq_nil_iff.2 (by simp)
      rw [e] at this
      simpa using this
    · exact bset_lt (by omega) (by omega)
  | r + 1, hr => by
    have ih := grows hm h0 r (by omega)
    obtain ⟨i, k, c, hi, hk, hf, ht, he⟩ := tree_best ih (by omega)
    have e1 : (treeTo sets (r + 1)).1 = bset (treeTo sets r).1 i := by simp only [treeTo, he]; rfl
    refine ⟨?_, ?_, ?_, ?_, ?_⟩
    · rw [e1, bset_bit, ih.zero]; rfl
    · intro j hj
      rw [e1, bset_bit] at hj
      simp only [Bool.or_eq_true, decide_eq_true_eq] at hj
      rcases hj with h | h
      · exact ih.lt j h
      · omega
    · have := filter_more (p := (treeTo sets r).1.testBit) (q := (treeTo sets (r + 1)).1.testBit) (b := i) (fun j => by rw [e1, bset_bit]) sets.length
      have := ih.few
      omega
    · rw [e1]; exact bset_lt ih.small (by omega)
    · simp only [treeTo]
      split
      · simp [ih.len]
      · exact ih.len
end Go.Gr
