/- Plain facts on lists of edges: those of a table are valid; what is read back. -/
import Derived.Test.YtamipjpcphghaaaDoorPA
namespace Go.Gr
def lexLt (e f : Int × Int) : Prop := e.1 < f.1 ∨ (e.1 = f.1 ∧ e.2 < f.2)
theorem cmpE_lex (e f : Int × Int) : cmpE e f < 0 ↔ lexLt e f := by
  unfold cmpE lexLt orI cmpI
  by_cases h1 : e.1 < f.1 <;> by_cases h2 : f.1 < e.1 <;> by_cases h3 : e.2 < f.2 <;> by_cases h4 : f.2 < e.2 <;> simp [h1, h2, h3, h4] <;> omega
theorem mem_tableEdges {t : Nat → Nat → Bool} {n m : Nat} {e : Int × Int} : e ∈ tableEdges t n m ↔ ∃ i k : Nat, i < m ∧ k < n ∧ i < k ∧ t i k = true ∧ e = ((i : Int), (k : Int)) := by
  unfold tableEdges rowT
  simp only [List.mem_flatMap, List.mem_range, List.mem_map, List.mem_filter, Bool.and_eq_true, decide_eq_true_eq]
  constructor
  · rintro ⟨i, hi, k, ⟨hk, h1, h2⟩, rfl⟩
    exact ⟨i, k, hi, hk, h1, h2, rfl⟩
  · rintro ⟨i, k, hi, hk, h1, h2, rfl⟩
    exact ⟨i, hi, k, ⟨hk, h1, h2⟩, rfl⟩
theorem tableEdges_pairwise (t : Nat → Nat → Bool) (n : Nat) : ∀ m, (tableEdges t n m).Pairwise lexLt
  | 0 => by simp [tableEdges]
  | m + 1 => by
    rw [tableEdges_succ, List.pairwise_append]
    refine ⟨tableEdges_pairwise t n m, ?_, ?_⟩
    · unfold rowT
      rw [List.pairwise_map]
      refine List.Pairwise.filter _ ?_
      exact List.Pairwise.imp (fun h => .inr ⟨rfl, by simpa using h⟩) List.pairwise_lt_range
    · intro a ha b hb
      obtain ⟨i, k, hi, _, _, _, rfl⟩ := mem_tableEdges.1 ha
      unfold rowT at hb
      obtain ⟨k', _, rfl⟩ := List.mem_map.1 hb
      left
      show (i : Int) < (m : Int)
      omega
theorem valid_of {n : Int} {es : List (Int × Int)} (h0 : 0 ≤ n) (hn : n ≤ 64) (hg : ∀ e ∈ es, goodEdge n e) (hp : es.Pairwise lexLt) : valid n es := by
  refine ⟨h0, hn, fun i hi _ => ⟨hg _ (List.getElem_mem _), fun h => ?_⟩⟩
  rw [cmpE_lex]
  exact List.pairwise_iff_getElem.1 hp (i - 1) i (by omega) hi (by omega)
theorem valid_good {n : Int} {es : List (Int × Int)} (h : valid n es) : ∀ e ∈ es, goodEdge n e := by
  intro e he
  obtain ⟨i, hi, rfl⟩ := List.getElem_of_mem he
  exact (h.2.2 i hi hi).1
theorem tableEdges_valid (t : Nat → Nat → Bool) {n : Nat} (hn : n ≤ 64) : valid n (tableEdges t n n) := by
  refine valid_of (by omega) (by omega) (fun e he => ?_) (tableEdges_pairwise t n n)
  obtain ⟨i, k, hi, hk, hik, _, rfl⟩ := mem_tableEdges.1 he
  refine ⟨?_, ?_, ?_⟩ <;> simp <;> omega
theorem tableEdges_len (t : Nat → Nat → Bool) (n : Nat) : ∀ m, (tableEdges t n m).length ≤ n * m
  | 0 => by simp [tableEdges]
  | m + 1 => by
    rw [tableEdges_succ, List.length_append]
    have := tableEdges_len t n m
    have h2 : (rowT t m n).length ≤ n := by
      unfold rowT
      rw [List.length_map]
      exact Nat.le_trans (List.length_filter_le _ _) (by simp)
    rw [Nat.mul_succ]; omega
theorem readT_iff (es : List (Int × Int)) (k m : Nat) : readT es k m = true ↔ ∃ e ∈ es, (e.1.toNat = k ∧ e.2.toNat = m) ∨ (e.1.toNat = m ∧ e.2.toNat = k) := by
  refine ⟨readT_from es, ?_⟩
  unfold readT
  have : ∀ (es : List (Int × Int)) (t : Nat → Nat → Bool), (t k m = true ∨ ∃ e ∈ es, (e.1.toNat = k ∧ e.2.toNat = m) ∨ (e.1.toNat = m ∧ e.2.toNat = k)) → es.foldl (fun t e => joinT t e.1.toNat e.2.toNat) t k m = true := by
    intro es
    induction es with
    | nil => rintro t (h | ⟨e, he, _⟩); exact h; simp at he
    | cons e es ih =>
      intro t h
      simp only [List.foldl_cons]
      refine ih _ ?_
      rw [joinT_at]
      rcases h with h | ⟨e', he, h⟩
      · exact .inl (by simp [h])
      · rcases List.mem_cons.1 he with rfl | he
        · refine .inl ?_
          rcases h with ⟨rfl, rfl⟩ | ⟨rfl, rfl⟩ <;> simp
        · exact .inr ⟨e', he, h⟩
  exact fun h => this es _ (.inr h)
theorem readT_table (t : Nat → Nat → Bool) (n i j : Nat) : readT (tableEdges t n n) i j = true ↔ (i < j ∧ j < n ∧ t i j = true) ∨ (j < i ∧ i < n ∧ t j i = true) := by
  rw [readT_iff]
  constructor
  · rintro ⟨e, he, h⟩
    obtain ⟨a, b, ha, hb, hab, ht, rfl⟩ := mem_tableEdges.1 he
    simp only [Int.toNat_natCast] at h
    rcases h with ⟨rfl, rfl⟩ | ⟨rfl, rfl⟩
    · exact .inl ⟨hab, hb, ht⟩
    · exact .inr ⟨hab, hb, ht⟩
  · rintro (⟨h1, h2, h3⟩ | ⟨h1, h2, h3⟩)
    · exact ⟨_, mem_tableEdges.2 ⟨i, j, by omega, h2, h1, h3, rfl⟩, .inl ⟨by simp, by simp⟩⟩
    · exact ⟨_, mem_tableEdges.2 ⟨j, i, by omega, h2, h1, h3, rfl⟩, .inr ⟨by simp, by simp⟩⟩
/-- A table that reads a valid graph: symmetric, no loop, all within. -/
structure Nice (t : Nat → Nat → Bool) (n : Nat) : Prop where
  sym : ∀ i j, t i j = true → t j i = true
  irr : ∀ i, t i i = false
  lt : ∀ i j, t i j = true → i < n ∧ j < n
theorem Nice.symm {t : Nat → Nat → Bool} {n : Nat} (h : Nice t n) (i j : Nat) : t i j = t j i := by
  rw [Bool.eq_iff_iff]; exact ⟨h.sym i j, h.sym j i⟩
theorem valid_nice {n : Nat} {es : List (Int × Int)} (h : valid n es) : Nice (readT es) n := by
  have hg := valid_good h
  refine ⟨fun i j hh => ?_, fun i => ?_, fun i j hh => ?_⟩
  · rw [readT_iff] at hh ⊢
    obtain ⟨e, he, h1⟩ := hh
    exact ⟨e, he, h1.elim .inr .inl⟩
  · cases hh : readT es i i with
    | false => rfl
    | true =>
      obtain ⟨e, he, h1⟩ := (readT_iff _ _ _).1 hh
      obtain ⟨g1, g2, g3⟩ := hg e he
      omega
  · obtain ⟨e, he, h1⟩ := (readT_iff _ _ _).1 hh
    obtain ⟨g1, g2, g3⟩ := hg e he
    omega
/-- What is written and read again. -/
theorem read_table {t : Nat → Nat → Bool} {n : Nat} (h : Nice t n) (i j : Nat) : readT (tableEdges t n n) i j = t i j := by
  rw [Bool.eq_iff_iff, readT_table]
  constructor
  · rintro (⟨_, _, h3⟩ | ⟨_, _, h3⟩)
    · exact h3
    · exact h.sym _ _ h3
  · intro hh
    have := h.lt i j hh
    rcases Nat.lt_trichotomy i j with h1 | h1 | h1
    · exact .inl ⟨h1, this.2, hh⟩
    · subst h1; rw [h.irr] at hh; cases hh
    · exact .inr ⟨h1, this.1, h.sym _ _ hh⟩
/-- The library writes what the reference writes. -/
theorem writeEdges_table {A : Nat → Nat} {n : Nat} (hn : n ≤ 64) (h : ∀ i j, i < n → (A i).testBit j = true → j < n ∧ i ≠ j) : writeEdges A n = tableEdges (fun i j => (A i).testBit j) n n := by
  unfold writeEdges tableEdges
  rw [List.flatMap_def, List.flatMap_def]
  congr 1
  apply List.map_congr_left
  intro i hi
  have hi : i < n := by simpa using hi
  unfold rowEdges rowT verts
  congr 1
  have hf : firstN i < 18446744073709551616 := by
    unfold firstN
    have := shl_lt i (by omega)
    omega
  apply filter_range_le (by omega)
  · intro k hk
    rw [andn_bit _ _ _ hf (by omega), firstN_bit]
    cases hh : (A i).testBit k
    · simp [hh]
    · have := (h i k hi hh).2
      by_cases hik : i < k
      · simp [hik, hh]; omega
      · simp [hik, hh]; omega
  · intro k h1 h2
    rw [andn_bit _ _ _ hf h2]
    cases hh : (A i).testBit k
    · simp
    · have := (h i k hi hh).1
      omega
end Go.Gr
