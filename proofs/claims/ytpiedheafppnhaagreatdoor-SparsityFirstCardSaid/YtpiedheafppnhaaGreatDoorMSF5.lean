/- Parts of the proof: GPC, GXI, GSpecT, GPB, GXE, GWJ, GWK, GSort, GWL, GWO, GWM, GWN. -/
import Derived.Lib.Tables
import Derived.Laws.MathBits
import Derived.Test.YtpiedheafppnhaaGreatDoorMSF4
section
/- Plain facts on lists of edges: those of a table are valid; what is read back. -/
namespace Go.Gr
def lexLt (e f : Int × Int) : Prop := e.1 < f.1 ∨ (e.1 = f.1 ∧ e.2 < f.2)
theorem cmpE_lex (e f : Int × Int) : cmpE e f < 0 ↔ lexLt e f := by
  unfold cmpE lexLt orI cmpI
  by_cases h1 : e.1 < f.1 <;> by_cases h2 : f.1 < e.1 <;> by_cases h3 : e.2 < f.2 <;> by_cases h4 : f.2 < e.2 <;> simp [h1, h2, h3, h4] <;> omega
theorem mem_tableEdges {t : Nat → Nat → Bool} {n m : Nat} {e : Int × Int} : e ∈ tableEdges t n m ↔ ∃ i k : Nat, i < m ∧ k < n ∧ i < k ∧ t i k = true ∧ e = ((i : Int), (k : Int)) := by
  unfold tableEdges rowT
  simp only [List.mem_flatMap, List.mem_range, List.mem_map, List.mem_filter, Bool.and_eq_true, decide_eq_true_eq]
  constructor
  · rintro ⟨i, hi, k, ⟨hk, h1, h2⟩, rfl⟩
    exact ⟨i, k, hi, hk, h1, h2, rfl⟩
  · rintro ⟨i, k, hi, hk, h1, h2, rfl⟩
    exact ⟨i, hi, k, ⟨hk, h1, h2⟩, rfl⟩
theorem tableEdges_pairwise (t : Nat → Nat → Bool) (n : Nat) : ∀ m, (tableEdges t n m).Pairwise lexLt
  | 0 => by simp [tableEdges]
  | m + 1 => by
    rw [tableEdges_succ, List.pairwise_append]
    refine ⟨tableEdges_pairwise t n m, ?_, ?_⟩
    · unfold rowT
      rw [List.pairwise_map]
      refine List.Pairwise.filter _ ?_
      exact List.Pairwise.imp (fun h => .inr ⟨rfl, by simpa using h⟩) List.pairwise_lt_range
    · intro a ha b hb
      obtain ⟨i, k, hi, _, _, _, rfl⟩ := mem_tableEdges.1 ha
      unfold rowT at hb
      obtain ⟨k', _, rfl⟩ := List.mem_map.1 hb
      left
      show (i : Int) < (m : Int)
      omega
theorem valid_of {n : Int} {es : List (Int × Int)} (h0 : 0 ≤ n) (hn : n ≤ 64) (hg : ∀ e ∈ es, goodEdge n e) (hp : es.Pairwise lexLt) : valid n es := by
  refine ⟨h0, hn, fun i hi _ => ⟨hg _ (List.getElem_mem _), fun h => ?_⟩⟩
  rw [cmpE_lex]
  exact List.pairwise_iff_getElem.1 hp (i - 1) i (by omega) hi (by omega)
theorem valid_good {n : Int} {es : List (Int × Int)} (h : valid n es) : ∀ e ∈ es, goodEdge n e := by
  intro e he
  obtain ⟨i, hi, rfl⟩ := List.getElem_of_mem he
  exact (h.2.2 i hi hi).1
theorem tableEdges_valid (t : Nat → Nat → Bool) {n : Nat} (hn : n ≤ 64) : valid n (tableEdges t n n) := by
  refine valid_of (by omega) (by omega) (fun e he => ?_) (tableEdges_pairwise t n n)
  obtain ⟨i, k, hi, hk, hik, _, rfl⟩ := mem_tableEdges.1 he
  refine ⟨?_, ?_, ?_⟩ <;> simp <;> omega
theorem tableEdges_len (t : Nat → Nat → Bool) (n : Nat) : ∀ m, (tableEdges t n m).length ≤ n * m
  | 0 => by simp [tableEdges]
  | m + 1 => by
    rw [tableEdges_succ, List.length_append]
    have := tableEdges_len t n m
    have h2 : (rowT t m n).length ≤ n := by
      unfold rowT
      rw [List.length_map]
      exact Nat.le_trans (List.length_filter_le _ _) (by simp)
    rw [Nat.mul_succ]; omega
theorem readT_iff (es : List (Int × Int)) (k m : Nat) : readT es k m = true ↔ ∃ e ∈ es, (e.1.toNat = k ∧ e.2.toNat = m) ∨ (e.1.toNat = m ∧ e.2.toNat = k) := by
  refine ⟨readT_from es, ?_⟩
  unfold readT
  have : ∀ (es : List (Int × Int)) (t : Nat → Nat → Bool), (t k m = true ∨ ∃ e ∈ es, (e.1.toNat = k ∧ e.2.toNat = m) ∨ (e.1.toNat = m ∧ e.2.toNat = k)) → es.foldl (fun t e => joinT t e.1.toNat e.2.toNat) t k m = true := by
    intro es
    induction es with
    | nil => rintro t (h | ⟨e, he, _⟩); exact h; simp at he
    | cons e es ih =>
      intro t h
      simp only [List.foldl_cons]
      refine ih _ ?_
      rw [joinT_at]
      rcases h with h | ⟨e', he, h⟩
      · exact .inl (by simp [h])
      · rcases List.mem_cons.1 he with rfl | he
        · refine .inl ?_
          rcases h with ⟨rfl, rfl⟩ | ⟨rfl, rfl⟩ <;> simp
        · exact .inr ⟨e', he, h⟩
  exact fun h => this es _ (.inr h)
theorem readT_table (t : Nat → Nat → Bool) (n i j : Nat) : readT (tableEdges t n n) i j = true ↔ (i < j ∧ j < n ∧ t i j = true) ∨ (j < i ∧ i < n ∧ t j i = true) := by
  rw [readT_iff]
  constructor
  · rintro ⟨e, he, h⟩
    obtain ⟨a, b, ha, hb, hab, ht, rfl⟩ := mem_tableEdges.1 he
    simp only [Int.toNat_natCast] at h
    rcases h with ⟨rfl, rfl⟩ | ⟨rfl, rfl⟩
    · exact .inl ⟨hab, hb, ht⟩
    · exact .inr ⟨hab, hb, ht⟩
  · rintro (⟨h1, h2, h3⟩ | ⟨h1, h2, h3⟩)
    · exact ⟨_, mem_tableEdges.2 ⟨i, j, by omega, h2, h1, h3, rfl⟩, .inl ⟨by simp, by simp⟩⟩
    · exact ⟨_, mem_tableEdges.2 ⟨j, i, by omega, h2, h1, h3, rfl⟩, .inr ⟨by simp, by simp⟩⟩
/-- A table that reads a valid graph: symmetric, no loop, all within. -/
structure Nice (t : Nat → Nat → Bool) (n : Nat) : Prop where
  sym : ∀ i j, t i j = true → t j i = true
  irr : ∀ i, t i i = false
  lt : ∀ i j, t i j = true → i < n ∧ j < n
theorem Nice.symm {t : Nat → Nat → Bool} {n : Nat} (h : Nice t n) (i j : Nat) : t i j = t j i := by
  rw [Bool.eq_iff_iff]; exact ⟨h.sym i j, h.sym j i⟩
theorem valid_nice {n : Nat} {es : List (Int × Int)} (h : valid n es) : Nice (readT es) n := by
  have hg := valid_good h
  refine ⟨fun i j hh => ?_, fun i => ?_, fun i j hh => ?_⟩
  · rw [readT_iff] at hh ⊢
    obtain ⟨e, he, h1⟩ := hh
    exact ⟨e, he, h1.elim .inr .inl⟩
  · cases hh : readT es i i with
    | false => rfl
    | true =>
      obtain ⟨e, he, h1⟩ := (readT_iff _ _ _).1 hh
      obtain ⟨g1, g2, g3⟩ := hg e he
      omega
  · obtain ⟨e, he, h1⟩ := (readT_iff _ _ _).1 hh
    obtain ⟨g1, g2, g3⟩ := hg e he
    omega
/-- What is written and read again. -/
theorem read_table {t : Nat → Nat → Bool} {n : Nat} (h : Nice t n) (i j : Nat) : readT (tableEdges t n n) i j = t i j := by
  rw [Bool.eq_iff_iff, readT_table]
  constructor
  · rintro (⟨_, _, h3⟩ | ⟨_, _, h3⟩)
    · exact h3
    · exact h.sym _ _ h3
  · intro hh
    have := h.lt i j hh
    rcases Nat.lt_trichotomy i j with h1 | h1 | h1
    · exact .inl ⟨h1, this.2, hh⟩
    · subst h1; rw [h.irr] at hh; cases hh
    · exact .inr ⟨h1, this.1, h.sym _ _ hh⟩
/-- The library writes what the reference writes. -/
theorem writeEdges_table {A : Nat → Nat} {n : Nat} (hn : n ≤ 64) (h : ∀ i j, i < n → (A i).testBit j = true → j < n ∧ i ≠ j) : writeEdges A n = tableEdges (fun i j => (A i).testBit j) n n := by
  unfold writeEdges tableEdges
  rw [List.flatMap_def, List.flatMap_def]
  congr 1
  apply List.map_congr_left
  intro i hi
  have hi : i < n := by simpa using hi
  unfold rowEdges rowT verts
  congr 1
  have hf : firstN i < 18446744073709551616 := by
    unfold firstN
    have := shl_lt i (by omega)
    omega
  apply filter_range_le (by omega)
  · intro k hk
    rw [andn_bit _ _ _ hf (by omega), firstN_bit]
    cases hh : (A i).testBit k
    · simp [hh]
    · have := (h i k hi hh).2
      by_cases hik : i < k
      · simp [hik, hh]; omega
      · simp [hik, hh]; omega
  · intro k h1 h2
    rw [andn_bit _ _ _ hf h2]
    cases hh : (A i).testBit k
    · simp
    · have := (h i k hi hh).1
      omega
end Go.Gr
end
section
/- The reference's Valid and Read. -/
namespace Go.Gr
theorem validTo_prev {n : Int} {es : List (Int × Int)} {k : Nat} (h : validTo n es (k + 1)) (hk : k < es.length) : goodEdge n es[k] ∧ (0 < k → lexLt (es[k - 1]'(by omega)) es[k]) :=
  ⟨(h k hk (by omega)).1, fun h0 => (cmpE_lex _ _).1 ((h k hk (by omega)).2 h0)⟩
end Go.Gr
namespace Go.Proofs.Tg.Gx
open Go.RowKit Go.Gr
set_option maxHeartbeats 4000000
set_option maxRecDepth 100000
def RetTable (n : Nat) (t : Nat → Nat → Bool) (w : World) (e : Ending) (w' : World) : Prop :=
  ∃ g, w.heap.size ≤ g ∧ e = .returned (.slice (some ⟨g, 0, none⟩) n n) ∧ TableAt w' g n t ∧ Below w.heap.size w w'
end Go.Proofs.Tg.Gx
end
section
/- Plain functions for the tree of cliques. -/
namespace Go.Gr
/-- The first k numbers are from 0 to 63 and ascend. -/
def ascTo (l : List Int) (k : Nat) : Prop := ∀ i (h : i < l.length), i < k → (0 ≤ l[i] ∧ l[i] < 64) ∧ (0 < i → l[i - 1]'(by omega) < l[i])
def asc (l : List Int) : Prop := ascTo l l.length
def setOf (l : List Int) : Nat := l.foldl (fun s v => bset s v.toNat) 0
theorem setOf_snoc (l : List Int) (v : Int) : setOf (l ++ [v]) = bset (setOf l) v.toNat := by simp [setOf]
theorem ascTo_succ {l : List Int} {k : Nat} (hk : k < l.length) (h : ascTo l k) (h1 : 0 ≤ l[k] ∧ l[k] < 64) (h2 : 0 < k → l[k - 1]'(by omega) < l[k]) : ascTo l (k + 1) := by
  intro i hi hik
  by_cases e : i = k
  · subst e; exact ⟨h1, h2⟩
  · exact h i hi (by omega)
theorem setOf_small {l : List Int} (h : asc l) : setOf l < 18446744073709551616 := by
  have : ∀ k, k ≤ l.length → setOf (l.take k) < 18446744073709551616 := by
    intro k
    induction k with
    | zero => intro _; simp [setOf]
    | succ k ih =>
      intro hk
      rw [List.take_succ_eq_append_getElem (by omega), setOf_snoc]
      have := (h k (by omega) (by omega)).1
      exact bset_lt (ih (by omega)) (by omega)
  have := this l.length (Nat.le_refl _)
  rwa [List.take_length] at this
/-- One pair of sets is looked at: i outside the tree, k inside. -/
def pairStep (sets : List Nat) (inT i : Nat) (b : Int × Int × Int) (k : Nat) : Int × Int × Int :=
  if inT.testBit i = false ∧ inT.testBit k = true ∧ b.2.2 < ((size (sets.getD i 0 &&& sets.getD k 0) : Nat) : Int) then ((i : Int), (k : Int), ((size (sets.getD i 0 &&& sets.getD k 0) : Nat) : Int)) else b
def rowTo (sets : List Nat) (inT i : Nat) (b : Int × Int × Int) (k : Nat) : Int × Int × Int := (List.range k).foldl (pairStep sets inT i) b
theorem rowTo_succ (sets : List Nat) (inT i : Nat) (b : Int × Int × Int) (k : Nat) : rowTo sets inT i b (k + 1) = pairStep sets inT i (rowTo sets inT i b k) k := by
  simp [rowTo, List.range_succ, List.foldl_append]
def allTo (sets : List Nat) (inT m : Nat) : Nat → Int × Int × Int
  | 0 => (-1, -1, -1)
  | i + 1 => rowTo sets inT i (allTo sets inT m i) m
/-- Whatever is chosen is a set outside the tree with one inside; and something is chosen if there is a pair. -/
def okBest (inT m : Nat) (b : Int × Int × Int) : Prop := b = (-1, -1, -1) ∨ ∃ i k c : Nat, i < m ∧ k < m ∧ inT.testBit i = false ∧ inT.testBit k = true ∧ b = ((i : Int), (k : Int), (c : Int))
theorem okBest_pair {sets : List Nat} {inT m i k : Nat} {b : Int × Int × Int} (h : okBest inT m b) (hi : i < m) (hk : k < m) : okBest inT m (pairStep sets inT i b k) := by
  unfold pairStep
  split
  · rename_i hc
    exact .inr ⟨i, k, _, hi, hk, hc.1, hc.2.1, rfl⟩
  · exact h
theorem okBest_row {sets : List Nat} {inT m i : Nat} {b : Int × Int × Int} (h : okBest inT m b) (hi : i < m) : ∀ k, k ≤ m → okBest inT m (rowTo sets inT i b k)
  | 0, _ => h
  | k + 1, hk => by rw [rowTo_succ]; exact okBest_pair (okBest_row h hi k (by omega)) hi (by omega)
theorem okBest_all {sets : List Nat} {inT m : Nat} : ∀ i, i ≤ m → okBest inT m (allTo sets inT m i)
  | 0, _ => .inl rfl
  | i + 1, hi => okBest_row (okBest_all i (by omega)) (by omega) m (Nat.le_refl _)
theorem pair_mono {sets : List Nat} {inT i k : Nat} {b : Int × Int × Int} : b.2.2 ≤ (pairStep sets inT i b k).2.2 := by
  unfold pairStep
  split
  · rename_i hc; have := hc.2.2; dsimp only; omega
  · exact Int.le_refl _
theorem row_mono {sets : List Nat} {inT i : Nat} {b : Int × Int × Int} : ∀ k, b.2.2 ≤ (rowTo sets inT i b k).2.2
  | 0 => Int.le_refl _
  | k + 1 => by rw [rowTo_succ]; exact Int.le_trans (row_mono k) pair_mono
theorem row_finds {sets : List Nat} {inT i k : Nat} {b : Int × Int × Int} (hi : inT.testBit i = false) (hk : inT.testBit k = true) : ∀ m, k < m → 0 ≤ (rowTo sets inT i b m).2.2
  | 0, h => by omega
  | m + 1, h => by
    rw [rowTo_succ]
    by_cases e : k = m
    · subst e
      unfold pairStep
      split
      · dsimp only; omega
      · rename_i hc
        by_cases h2 : (rowTo sets inT i b k).2.2 < ((size (sets.getD i 0 &&& sets.getD k 0) : Nat) : Int)
        · exact absurd ⟨hi, hk, h2⟩ hc
        · omega
    · exact Int.le_trans (row_finds hi hk m (by omega)) pair_mono
theorem all_mono {sets : List Nat} {inT m : Nat} (i : Nat) : (allTo sets inT m i).2.2 ≤ (allTo sets inT m (i + 1)).2.2 := row_mono m
theorem all_finds {sets : List Nat} {inT m i k : Nat} (hi : inT.testBit i = false) (hk : inT.testBit k = true) (hkm : k < m) : ∀ q, i < q → 0 ≤ (allTo sets inT m q).2.2
  | 0, h => by omega
  | q + 1, h => by
    by_cases e : i = q
    · subst e; exact row_finds hi hk m hkm
    · exact Int.le_trans (all_finds hi hk hkm q (by omega)) (all_mono q)
/-- The sets in the tree, and the parents, after r rounds. -/
def treeTo (sets : List Nat) : Nat → Nat × List Int
  | 0 => (bset 0 0, List.replicate sets.length (-1))
  | r + 1 =>
    let b := allTo sets (treeTo sets r).1 sets.length sets.length
    (bset (treeTo sets r).1 b.1.toNat, if 0 < b.2.2 then (treeTo sets r).2.set b.1.toNat b.2.1 else (treeTo sets r).2)
def tree (sets : List Nat) : List Int := (treeTo sets (sets.length - 1)).2
structure Grows (sets : List Nat) (r : Nat) : Prop where
  zero : (treeTo sets r).1.testBit 0 = true
  lt : ∀ i, (treeTo sets r).1.testBit i = true → i < sets.length
  few : ((List.range sets.length).filter (treeTo sets r).1.testBit).length ≤ r + 1
  small : (treeTo sets r).1 < 18446744073709551616
  len : (treeTo sets r).2.length = sets.length
theorem filter_more {p q : Nat → Bool} {b : Nat} (hq : ∀ i, q i = (p i || decide (b = i))) : ∀ n, ((List.range n).filter q).length ≤ ((List.range n).filter p).length + 1 := by
  have key : ∀ n, ((List.range n).filter q).length ≤ ((List.range n).filter p).length + (if b < n then 1 else 0) := by
    intro n
    induction n with
    | zero => simp
    | succ n ih =>
      rw [List.range_succ, List.filter_append, List.filter_append, List.length_append, List.length_append]
      by_cases e : b = n
      · subst e
        have h1 : (List.filter q [b]).length ≤ 1 := List.length_filter_le _ _
        simp only [Nat.lt_irrefl, if_false, show b < b + 1 from by omega, if_true] at ih ⊢
        omega
      · have : q n = p n := by rw [hq]; simp [e]
        have h2 : (List.filter q [n]).length = (List.filter p [n]).length := by simp [List.filter_cons, this]
        by_cases hb : b < n
        · simp only [hb, if_true, show b < n + 1 from by omega] at ih ⊢; omega
        · simp only [hb, if_false, show ¬ b < n + 1 from by omega] at ih ⊢; omega
  intro n
  have := key n
  split at this <;> omega
theorem tree_best {sets : List Nat} {r : Nat} (h : Grows sets r) (hr : r + 1 < sets.length) : ∃ i k c : Nat, i < sets.length ∧ k < sets.length ∧ (treeTo sets r).1.testBit i = false ∧ (treeTo sets r).1.testBit k = true ∧
    allTo sets (treeTo sets r).1 sets.length sets.length = ((i : Int), (k : Int), (c : Int)) := by
  rcases okBest_all (sets := sets) (inT := (treeTo sets r).1) (m := sets.length) sets.length (Nat.le_refl _) with h2 | h2
  · exfalso
    have hex : ∃ i, i < sets.length ∧ (treeTo sets r).1.testBit i = false := by
      by_cases hh : ∃ i, i < sets.length ∧ (treeTo sets r).1.testBit i = false
      · exact hh
      · exfalso
        have : (List.range sets.length).filter (treeTo sets r).1.testBit = List.range sets.length := List.filter_eq_self.2 (fun i hi => by
          by_cases hb : (treeTo sets r).1.testBit i = true
          · exact hb
          · exact absurd ⟨i, by simpa using hi, by simpa using hb⟩ hh)
        have hf := h.few
        rw [this, List.length_range] at hf
        omega
    obtain ⟨i, hi, hf⟩ := hex
    have := all_finds (sets := sets) hf h.zero (m := sets.length) (by omega) sets.length hi
    rw [h2] at this
    simp at this
  · exact h2
theorem grows {sets : List Nat} (hm : sets.length ≤ 64) (h0 : 0 < sets.length) : ∀ r, r + 1 ≤ sets.length → Grows sets r
  | 0, _ => by
    refine ⟨by unfold treeTo; rw [bset_bit]; simp, ?_, ?_, ?_, by simp [treeTo]⟩
    · intro i hi
      simp [treeTo, bset_bit] at hi
      omega
    · have := filter_more (p := fun _ => false) (q := (treeTo sets 0).1.testBit) (b := 0) (fun i => by simp [treeTo, bset_bit]) sets.length
      have e : ((List.range sets.length).filter fun _ => false) = [] := List.filter_eq_nil_iff.2 (by simp)
      rw [e] at this
      simpa using this
    · exact bset_lt (by omega) (by omega)
  | r + 1, hr => by
    have ih := grows hm h0 r (by omega)
    obtain ⟨i, k, c, hi, hk, hf, ht, he⟩ := tree_best ih (by omega)
    have e1 : (treeTo sets (r + 1)).1 = bset (treeTo sets r).1 i := by simp only [treeTo, he]; rfl
    refine ⟨?_, ?_, ?_, ?_, ?_⟩
    · rw [e1, bset_bit, ih.zero]; rfl
    · intro j hj
      rw [e1, bset_bit] at hj
      simp only [Bool.or_eq_true, decide_eq_true_eq] at hj
      rcases hj with h | h
      · exact ih.lt j h
      · omega
    · have := filter_more (p := (treeTo sets r).1.testBit) (q := (treeTo sets (r + 1)).1.testBit) (b := i) (fun j => by rw [e1, bset_bit]) sets.length
      have := ih.few
      omega
    · rw [e1]; exact bset_lt ih.small (by omega)
    · simp only [treeTo]
      split
      · simp [ih.len]
      · exact ih.len
end Go.Gr
end
section
/- Plain law of Tree: the library's parents are the reference's. -/
namespace Go.Gr
/-- Two ascending lists with the same members are one. -/
theorem asc_ext : ∀ {l m : List Int}, l.Pairwise (· < ·) → m.Pairwise (· < ·) → (∀ x, x ∈ l ↔ x ∈ m) → l = m
  | [], [], _, _, _ => rfl
  | [], y :: m, _, _, h => by have := (h y).2 (by simp); simp at this
  | x :: l, [], _, _, h => by have := (h x).1 (by simp); simp at this
  | x :: l, y :: m, h1, h2, h => by
    rw [List.pairwise_cons] at h1 h2
    have hxy : x = y := by
      have a := (h x).1 (by simp)
      have b := (h y).2 (by simp)
      rcases List.mem_cons.1 a with e | e
      · exact e
      · rcases List.mem_cons.1 b with e2 | e2
        · exact e2.symm
        · have := h1.1 y e2
          have := h2.1 x e
          omega
    subst hxy
    congr 1
    refine asc_ext h1.2 h2.2 (fun z => ⟨fun hz => ?_, fun hz => ?_⟩)
    · rcases List.mem_cons.1 ((h z).1 (by simp [hz])) with e | e
      · subst e; have := h1.1 z hz; omega
      · exact e
    · rcases List.mem_cons.1 ((h z).2 (by simp [hz])) with e | e
      · subst e; have := h2.1 z hz; omega
      · exact e
theorem asc_pairwise {l : List Int} (h : asc l) : l.Pairwise (· < ·) := by
  rw [List.pairwise_iff_getElem]
  intro i j hi hj hij
  have : ∀ d, ∀ j (hj : j < l.length), j = i + d + 1 → l[i] < l[j] := by
    intro d
    induction d with
    | zero =>
      intro j hj e
      have := (h j hj hj).2 (by omega)
      subst e
      simpa using this
    | succ d ih =>
      intro j hj e
      have h1 := ih (j - 1) (by omega) (by omega)
      have h2 := (h j hj hj).2 (by omega)
      omega
  exact this (j - i - 1) j hj (by omega)
theorem asc_range {l : List Int} (h : asc l) : ∀ x ∈ l, 0 ≤ x ∧ x < 64 := by
  intro x hx
  obtain ⟨i, hi, rfl⟩ := List.getElem_of_mem hx
  exact (h i hi hi).1
theorem setOf_bit : ∀ {l : List Int}, (∀ x ∈ l, 0 ≤ x) → ∀ j : Nat, (setOf l).testBit j = true ↔ (j : Int) ∈ l := by
  intro l
  have : ∀ (l : List Int) (s : Nat), (∀ x ∈ l, 0 ≤ x) → ∀ j : Nat, (l.foldl (fun s v => bset s v.toNat) s).testBit j = true ↔ s.testBit j = true ∨ (j : Int) ∈ l := by
    intro l
    induction l with
    | nil => intro s _ j; simp
    | cons x l ih =>
      intro s h j
      have hx := h x (by simp)
      rw [List.foldl_cons, ih _ (fun y hy => h y (by simp [hy])), bset_bit]
      simp only [Bool.or_eq_true, decide_eq_true_eq, List.mem_cons]
      have : (x.toNat = j) ↔ ((j : Int) = x) := by omega
      rw [this, or_assoc]
  intro h j
  have := this l 0 h j
  simpa [setOf] using this
def vertsZ (s : Nat) : List Int := (verts s).map fun v : Nat => (v : Int)
theorem vertsZ_asc (s : Nat) : (vertsZ s).Pairwise (· < ·) := by
  unfold vertsZ verts
  rw [List.pairwise_map]
  refine List.Pairwise.filter _ ?_
  exact List.Pairwise.imp (fun h => by omega) List.pairwise_lt_range
theorem mem_vertsZ {s : Nat} {x : Int} : x ∈ vertsZ s ↔ 0 ≤ x ∧ x < 64 ∧ s.testBit x.toNat = true := by
  unfold vertsZ
  rw [List.mem_map]
  constructor
  · rintro ⟨v, hv, rfl⟩
    rw [mem_verts] at hv
    exact ⟨by omega, by omega, by simpa using hv.2⟩
  · rintro ⟨h1, h2, h3⟩
    exact ⟨x.toNat, by rw [mem_verts]; exact ⟨by omega, h3⟩, by omega⟩
theorem vertsZ_setOf {l : List Int} (h : asc l) : vertsZ (setOf l) = l := by
  refine asc_ext (vertsZ_asc _) (asc_pairwise h) (fun x => ?_)
  rw [mem_vertsZ]
  constructor
  · rintro ⟨h1, h2, h3⟩
    have := (setOf_bit (fun y hy => (asc_range h y hy).1) _).1 h3
    rwa [show ((x.toNat : Nat) : Int) = x from by omega] at this
  · intro hx
    have := asc_range h x hx
    exact ⟨this.1, this.2, (setOf_bit (fun y hy => (asc_range h y hy).1) _).2 (by rwa [show ((x.toNat : Nat) : Int) = x from by omega])⟩
/-- How many pairs of equal elements two lists have. -/
def common (a b : List Int) : Nat := (a.map fun x => b.count x).sum
theorem common_snoc (a b : List Int) (x : Int) : common (a ++ [x]) b = common a b + b.count x := by simp [common]
theorem count_snoc (b : List Int) (y x : Int) : (b ++ [y]).count x = b.count x + if y = x then 1 else 0 := by
  rw [List.count_append, List.count_singleton]
  by_cases h : y = x <;> simp [h]
theorem common_size {a b : List Int} (ha : asc a) (hb : asc b) : common a b = size (setOf a &&& setOf b) := by
  have hnd : b.Nodup := (asc_pairwise hb).imp (fun h => by omega)
  have h1 : ∀ l : List Int, (l.map fun x => b.count x).sum = (l.filter fun x => decide (x ∈ b)).length := by
    intro l
    induction l with
    | nil => rfl
    | cons x l ih =>
      rw [List.map_cons, List.sum_cons, ih]
      by_cases hx : x ∈ b
      · rw [List.filter_cons_of_pos (by simpa using hx), List.Nodup.count hnd, if_pos hx]; simp; omega
      · rw [List.filter_cons_of_neg (by simpa using hx), List.count_eq_zero_of_not_mem hx]; simp
  unfold common
  rw [h1]
  conv => lhs; rw [← vertsZ_setOf ha]
  unfold vertsZ size verts
  rw [List.filter_map, List.length_map, List.filter_filter]
  congr 1
  apply List.filter_congr
  intro j hj
  simp only [Function.comp, Nat.testBit_and]
  rw [Bool.and_comm]
  congr 1
  rw [Bool.eq_iff_iff, setOf_bit (fun y hy => (asc_range hb y hy).1)]
  simp
/-- One pair of lists is looked at by the reference. -/
def rpair (ls : List (List Int)) (inn : Nat → Bool) (i : Nat) (b : Int × Int × Int) (k : Nat) : Int × Int × Int :=
  if inn i = false ∧ inn k = true ∧ b.2.2 < ((common (ls.getD i []) (ls.getD k []) : Nat) : Int) then ((i : Int), (k : Int), ((common (ls.getD i []) (ls.getD k []) : Nat) : Int)) else b
def rrow (ls : List (List Int)) (inn : Nat → Bool) (i : Nat) (b : Int × Int × Int) (k : Nat) : Int × Int × Int := (List.range k).foldl (rpair ls inn i) b
theorem rrow_succ (ls : List (List Int)) (inn : Nat → Bool) (i : Nat) (b : Int × Int × Int) (k : Nat) : rrow ls inn i b (k + 1) = rpair ls inn i (rrow ls inn i b k) k := by
  simp [rrow, List.range_succ, List.foldl_append]
def rall (ls : List (List Int)) (inn : Nat → Bool) (m : Nat) : Nat → Int × Int × Int
  | 0 => (0, -1, -1)
  | i + 1 => rrow ls inn i (rall ls inn m i) m
def updF {α : Type} (f : Nat → α) (i : Nat) (x : α) : Nat → α := fun k => if k = i then x else f k
/-- What the reference has after r rounds: which lists are in the tree, and the parents. -/
def rtree (ls : List (List Int)) : Nat → (Nat → Bool) × (Nat → Int)
  | 0 => (fun _ => false, fun _ => 0)
  | r + 1 =>
    let b := rall ls (rtree ls r).1 ls.length ls.length
    (updF (rtree ls r).1 b.1.toNat true, updF (rtree ls r).2 b.1.toNat (if b.2.2 ≤ 0 then -1 else b.2.1))
/-- The reference's choice is a list of the table. -/
theorem rall_lt {ls : List (List Int)} {inn : Nat → Bool} {m : Nat} (hm : 0 < m) : ∀ i, i ≤ m → 0 ≤ (rall ls inn m i).1 ∧ (rall ls inn m i).1 < m := by
  have hrow : ∀ i (b : Int × Int × Int), i < m → (0 ≤ b.1 ∧ b.1 < m) → ∀ k, 0 ≤ (rrow ls inn i b k).1 ∧ (rrow ls inn i b k).1 < m := by
    intro i b hi hb k
    induction k with
    | zero => exact hb
    | succ k ih =>
      rw [rrow_succ]
      unfold rpair
      split
      · dsimp only; omega
      · exact ih
  intro i
  induction i with
  | zero => intro _; simp [rall]; omega
  | succ i ih => intro hi; exact hrow i _ (by omega) (ih (by omega)) m
theorem rall_none {ls : List (List Int)} {inn : Nat → Bool} {m : Nat} (h : ∀ k, inn k = false) : ∀ i, rall ls inn m i = (0, -1, -1)
  | 0 => rfl
  | i + 1 => by
    have : ∀ k, rrow ls inn i (rall ls inn m i) k = rall ls inn m i := by
      intro k
      induction k with
      | zero => rfl
      | succ k ih => rw [rrow_succ, ih]; unfold rpair; rw [if_neg (fun hc => by rw [h k] at hc; cases hc.2.1)]
    show rrow ls inn i (rall ls inn m i) m = _
    rw [this, rall_none h i]
/-- Both choose alike, as long as the reference has chosen something. -/
theorem rall_all {ls : List (List Int)} (ha : ∀ l ∈ ls, asc l) {inn : Nat → Bool} {inT m : Nat} (hm : m = ls.length) (hi : ∀ i, i < m → inn i = inT.testBit i) :
    ∀ i, i ≤ m → (rall ls inn m i = allTo (ls.map setOf) inT m i) ∨ (rall ls inn m i = (0, -1, -1) ∧ allTo (ls.map setOf) inT m i = (-1, -1, -1)) := by
  have hpair : ∀ i k, i < m → k < m → ∀ b c : Int × Int × Int, (b = c ∨ (b = (0, -1, -1) ∧ c = (-1, -1, -1))) →
      (rpair ls inn i b k = pairStep (ls.map setOf) inT i c k ∨ (rpair ls inn i b k = (0, -1, -1) ∧ pairStep (ls.map setOf) inT i c k = (-1, -1, -1))) := by
    intro i k hii hk b c hbc
    have e1 : ls.getD i [] = ls[i] := by simp [show i < ls.length by omega]
    have e2 : ls.getD k [] = ls[k] := by simp [show k < ls.length by omega]
    have e3 : (ls.map setOf).getD i 0 = setOf ls[i] := by simp [show i < ls.length by omega]
    have e4 : (ls.map setOf).getD k 0 = setOf ls[k] := by simp [show k < ls.length by omega]
    have hc := common_size (ha ls[i] (List.getElem_mem _)) (ha ls[k] (List.getElem_mem _))
    have h22 : b.2.2 = c.2.2 := by rcases hbc with rfl | ⟨rfl, rfl⟩ <;> rfl
    unfold rpair pairStep
    rw [e1, e2, e3, e4, hc, hi i hii, hi k hk, h22]
    split
    · exact .inl rfl
    · exact hbc
  have hrow : ∀ i, i < m → ∀ b c : Int × Int × Int, (b = c ∨ (b = (0, -1, -1) ∧ c = (-1, -1, -1))) → ∀ k, k ≤ m →
      (rrow ls inn i b k = rowTo (ls.map setOf) inT i c k ∨ (rrow ls inn i b k = (0, -1, -1) ∧ rowTo (ls.map setOf) inT i c k = (-1, -1, -1))) := by
    intro i hii b c hbc k
    induction k with
    | zero => intro _; exact hbc
    | succ k ih =>
      intro hk
      rw [rrow_succ, rowTo_succ]
      exact hpair i k hii (by omega) _ _ (ih (by omega))
  intro i
  induction i with
  | zero => intro _; exact .inr ⟨rfl, rfl⟩
  | succ i ih => intro hi2; exact hrow i (by omega) _ _ (ih (by omega)) m (Nat.le_refl _)
structure Alike (ls : List (List Int)) (r : Nat) : Prop where
  inn : ∀ i, i < ls.length → (rtree ls (r + 1)).1 i = (treeTo (ls.map setOf) r).1.testBit i
  out : ∀ i, i < ls.length → (rtree ls (r + 1)).1 i = true → (rtree ls (r + 1)).2 i = (treeTo (ls.map setOf) r).2.getD i 0
  rest : ∀ i, i < ls.length → (rtree ls (r + 1)).1 i = false → (treeTo (ls.map setOf) r).2.getD i 0 = -1
  many : r + 1 ≤ ((List.range ls.length).filter (rtree ls (r + 1)).1).length
theorem filter_one_more {p q : Nat → Bool} {b n : Nat} (hb : b < n) (h0 : p b = false) (h1 : q b = true) (h2 : ∀ i, p i = true → q i = true) : ((List.range n).filter p).length + 1 ≤ ((List.range n).filter q).length := by
  have hle : ∀ l : List Nat, (l.filter p).length ≤ (l.filter q).length := by
    intro l
    induction l with
    | nil => simp
    | cons x l ih =>
      by_cases hp : p x = true
      · simp [hp, h2 x hp]; omega
      · by_cases hq : q x = true <;> simp [hp, hq] <;> omega
  have : ∀ l : List Nat, b ∈ l → (l.filter p).length + 1 ≤ (l.filter q).length := by
    intro l
    induction l with
    | nil => simp
    | cons x l ih =>
      intro hm
      by_cases e : x = b
      · subst e
        have := hle l
        simp [h0, h1]; omega
      · have := ih ((List.mem_cons.1 hm).resolve_left (fun e2 => e e2.symm))
        by_cases hp : p x = true
        · simp [hp, h2 x hp]; omega
        · by_cases hq : q x = true <;> simp [hp, hq] <;> omega
  exact this _ (by simpa using hb)
theorem alike {ls : List (List Int)} (ha : ∀ l ∈ ls, asc l) (hm : ls.length ≤ 64) (h0 : 0 < ls.length) : ∀ r, r + 1 ≤ ls.length → Alike ls r
  | 0, _ => by
    have e : rtree ls 1 = (updF (fun _ => false) 0 true, updF (fun _ => 0) 0 (-1)) := by
      simp only [rtree, rall_none (ls := ls) (inn := fun _ => false) (m := ls.length) (fun _ => rfl)]
      rfl
    refine ⟨fun i hi => ?_, fun i hi h => ?_, fun i hi h => ?_, ?_⟩
    · rw [e]; simp only [treeTo, updF, bset_bit]
      by_cases h : i = 0
      · simp [h]
      · have : ¬ 0 = i := fun e => h e.symm
        simp [h, this]
    · rw [e] at h ⊢
      simp only [updF] at h ⊢
      by_cases h2 : i = 0
      · subst h2; simp [treeTo, h0]
      · rw [if_neg h2] at h; cases h
    · simp [treeTo, hi]
    · rw [e]
      have := filter_one_more (p := fun _ => false) (q := updF (fun _ => false) 0 true) (b := 0) (n := ls.length) h0 rfl rfl (by simp)
      simp only at this ⊢
      omega
  | r + 1, hr => by
    have ih := alike ha hm h0 r (by omega)
    have hg := grows (sets := ls.map setOf) (by simpa using hm) (by simpa using h0) r (by simp; omega)
    obtain ⟨i0, k0, c0, hi0, hk0, hf, ht, he⟩ := tree_best hg (by simp; omega)
    rw [List.length_map] at hi0 hk0 he
    have hra : rall ls (rtree ls (r + 1)).1 ls.length ls.length = ((i0 : Int), (k0 : Int), (c0 : Int)) := by
      rcases rall_all ha (inn := (rtree ls (r + 1)).1) (inT := (treeTo (ls.map setOf) r).1) rfl ih.inn ls.length (Nat.le_refl _) with h | ⟨_, h⟩
      · rw [h, he]
      · rw [he] at h
        have := congrArg (fun x => x.1) h
        simp at this
    have e1 : rtree ls (r + 1 + 1) = (updF (rtree ls (r + 1)).1 i0 true, updF (rtree ls (r + 1)).2 i0 (if (c0 : Int) ≤ 0 then -1 else (k0 : Int))) := by
      show (let b := rall ls (rtree ls (r + 1)).1 ls.length ls.length
            (updF (rtree ls (r + 1)).1 b.1.toNat true, updF (rtree ls (r + 1)).2 b.1.toNat (if b.2.2 ≤ 0 then -1 else b.2.1))) = _
      rw [hra]; rfl
    have e2 : treeTo (ls.map setOf) (r + 1) = (bset (treeTo (ls.map setOf) r).1 i0, if (0 : Int) < (c0 : Int) then (treeTo (ls.map setOf) r).2.set i0 (k0 : Int) else (treeTo (ls.map setOf) r).2) := by
      simp only [treeTo, List.length_map, he]; rfl
    have hlen := hg.len
    rw [List.length_map] at hlen
    have hfi : (rtree ls (r + 1)).1 i0 = false := by rw [ih.inn i0 hi0]; exact hf
    have hrest := ih.rest i0 hi0 hfi
    refine ⟨fun i hi => ?_, fun i hi h => ?_, fun i hi h => ?_, ?_⟩
    · rw [e1, e2]; simp only [updF, bset_bit]
      by_cases h : i = i0
      · simp [h]
      · have : ¬ i0 = i := fun e => h e.symm
        simp [h, this, ih.inn i hi]
    · rw [e1] at h ⊢
      rw [e2]
      simp only [updF] at h ⊢
      by_cases h2 : i = i0
      · subst h2
        rw [if_pos rfl]
        by_cases hc : (0 : Int) < (c0 : Int)
        · rw [if_pos hc, if_neg (by omega)]; simp [hlen, hi]
        · rw [if_neg hc, if_pos (by omega), hrest]
      · rw [if_neg h2] at h ⊢
        have := ih.out i hi h
        rw [this]
        split
        · rw [List.getD_eq_getElem?_getD, List.getD_eq_getElem?_getD, List.getElem?_set_ne (fun e => h2 e.symm)]
        · rfl
    · rw [e1] at h
      rw [e2]
      simp only [updF] at h ⊢
      by_cases h2 : i = i0
      · rw [if_pos h2] at h; cases h
      · rw [if_neg h2] at h
        have := ih.rest i hi h
        split
        · rw [List.getD_eq_getElem?_getD, List.getElem?_set_ne (fun e => h2 e.symm), ← List.getD_eq_getElem?_getD]; exact this
        · exact this
    · rw [e1]
      have := filter_one_more (p := (rtree ls (r + 1)).1) (q := updF (rtree ls (r + 1)).1 i0 true) (b := i0) (n := ls.length) hi0 hfi (by simp [updF]) (by
        intro i h; unfold updF; split
        · rfl
        · exact h)
      have := ih.many
      dsimp only
      omega
theorem filter_full {p : Nat → Bool} {n : Nat} (h : n ≤ ((List.range n).filter p).length) : ∀ i, i < n → p i = true := by
  intro i hi
  have h1 : ((List.range n).filter p).length ≤ (List.range n).length := List.length_filter_le _ _
  rw [List.length_range] at h1
  have := List.length_filter_eq_length_iff.1 (show ((List.range n).filter p).length = (List.range n).length by rw [List.length_range]; omega)
  exact this i (by simpa using hi)
/-- The reference's parents are the library's. -/
theorem rtree_tree {ls : List (List Int)} (ha : ∀ l ∈ ls, asc l) (hm : ls.length ≤ 64) : (List.range ls.length).map (rtree ls ls.length).2 = tree (ls.map setOf) := by
  by_cases h0 : 0 < ls.length
  · have hA := alike ha hm h0 (ls.length - 1) (by omega)
    have hg := grows (sets := ls.map setOf) (by simpa using hm) (by simpa using h0) (ls.length - 1) (by simp; omega)
    have e : ls.length - 1 + 1 = ls.length := by omega
    obtain ⟨_, ho, _, hmany⟩ := hA
    rw [e] at ho hmany
    have hall := filter_full hmany
    unfold tree
    rw [List.length_map]
    have hl := hg.len
    rw [List.length_map] at hl
    apply List.ext_getElem
    · simp [hl]
    · intro i h1 h2
      have hi : i < ls.length := by simpa using h1
      rw [List.getElem_map, List.getElem_range, ho i hi (hall i hi)]
      simp [List.getD_eq_getElem?_getD, List.getElem?_eq_getElem h2]
  · have : ls = [] := List.eq_nil_of_length_eq_zero (by omega)
    subst this
    rfl
end Go.Gr
end
section
/- The reference's Common. -/
namespace Go.Proofs.Tg.Gx
open Go.RowKit Go.Gr
set_option maxHeartbeats 1000000
set_option maxRecDepth 100000
theorem drew_more {w wr : World} (h : Hid (∃ n, wr = w.drewN n)) (k : Nat) : Hid (∃ n, wr.drewN k = w.drewN n) := by
  obtain ⟨n, hn⟩ := h.out
  exact Lib.hid ⟨n + k, by rw [hn, World.drewN_drewN]⟩
end Go.Proofs.Tg.Gx
end
section
/- Extend. -/
namespace Go.Gr
theorem extFrom_zero (f : Nat) (A : Nat → Nat) : extFrom f A 0 = A := by cases f <;> simp [extFrom]
end Go.Gr
namespace Go.Proofs.Tg.Gx
open Go.RowKit Go.Gr
set_option maxHeartbeats 1000000
set_option maxRecDepth 100000
theorem own_setFar {w : World} {b g n c : Nat} {t : TypeId} {V : Option Addr} {xs : List Value} (h : w.ownsRow b t 1 (.slice V n c) n xs) (hg : g < b) (i : Nat) (u : Value) : (w.setCell ⟨g, i, none⟩ u).ownsRow b t 1 (.slice V n c) n xs :=
  own_far h (fun e => by have := (h.lt g e.symm).1; omega) u
end Go.Proofs.Tg.Gx
end
section
/- Reading a set; the tree of cliques. -/
namespace Go.Proofs.Tg.Gx
open Go.RowKit Go.Gr
set_option maxHeartbeats 1000000
set_option maxRecDepth 100000
def RetSet (b : Bool) (l : List Int) (w : World) (e : Ending) (w' : World) : Prop := ∃ s : Nat, e = .returned (.tuple #[.int .u64 s, .bool b]) ∧ (b = true → s = setOf l) ∧ w = w'
/-- A slice of slices of numbers. -/
def Lists (w : World) (V : Option Addr) (ls : List (List Int)) : Prop :=
  ∃ f : Nat → Option Addr × Nat, Sl w V ls.length 1 ((List.range ls.length).map fun i => .slice (f i).1 (ls.getD i []).length (f i).2) ∧ ∀ i, i < ls.length → Ints w (f i).1 (ls.getD i [])
theorem Lists.keep {w w' : World} {V : Option Addr} {ls : List (List Int)} (h : Lists w V ls) (hb : Below w.heap.size w w') : Lists w' V ls := by
  obtain ⟨f, hs, hr⟩ := h
  exact ⟨f, hs.keep hb, fun i hi => (hr i hi).keep hb⟩
theorem Lists.at {w : World} {V : Option Addr} {ls : List (List Int)} (h : Lists w V ls) {k : Nat} (hk : k < ls.length) : ∃ ad A c, V = some ad ∧ w.cell? (ad.add k) = some (.slice A ls[k].length c) ∧ Ints w A ls[k] := by
  obtain ⟨f, hs, hr⟩ := h
  obtain ⟨ad, rfl, hc⟩ := Sl.at1 hs hk
  have e : ls.getD k [] = ls[k] := by simp [hk]
  have hi := hr k hk
  rw [e] at hi
  refine ⟨ad, (f k).1, (f k).2, rfl, ?_, hi⟩
  rw [hc]
  simp [hk]
def iarr (l : List Int) : Array Value := (l.map vi).toArray
theorem iarr_made (n : Nat) : madeCells #[.int .i64 0] n = iarr (List.replicate n 0) := by
  apply Array.ext
  · simp [iarr, size_madeCells]
  · intro i h1 h2
    simp [madeCells, iarr, vi, Nat.mod_one]
theorem iarr_set (l : List Int) (k : Nat) (s : Int) : (iarr l).setIfInBounds k (.int .i64 s) = iarr (l.set k s) := by
  simp [iarr, List.map_set, vi]
theorem iarr_at (l : List Int) {k : Nat} (hk : k < l.length) : (iarr l)[k]? = some (.int .i64 l[k]) := by simp [iarr, hk, vi]
theorem sarr_at (l : List Nat) {k : Nat} (hk : k < l.length) : (sarr l)[k]? = some (.int .u64 (l[k] : Nat)) := by simp [sarr, hk, vs]
theorem own_iarr {w : World} {b g n : Nat} {l : List Int} (h : Blk w g 3 (iarr l)) (hb : b ≤ g) (hn : l.length = n) (hm : n ≤ 1000000) : w.ownsRow b 3 1 (.slice (some ⟨g, 0, none⟩) n n) n (l.map vi) :=
  ⟨by simp [hn], .inr ⟨g, n, _, rfl, hb, h, Nat.le_refl _, by simp only [maxLen]; omega, by simp [iarr, hn], by rw [← hn]; simp only [iarr, Nat.mul_one]; exact List.take_of_length_le (by simp)⟩⟩
def RetTree (ls : List (List Int)) (w : World) (e : Ending) (w' : World) : Prop :=
  ∃ A c, e = .returned (.tuple #[.slice A ls.length c, .int .i64 0]) ∧ w'.ownsRow w.heap.size 3 1 (.slice A ls.length c) ls.length ((tree (ls.map setOf)).map vi) ∧ Below w.heap.size w w'
theorem set_midI (l : List Int) (m k : Nat) (s z : Int) (hk : l.length = k) (hm : 0 < m) : (l ++ List.replicate m z).set k s = (l ++ [s]) ++ List.replicate (m - 1) z := by
  subst hk
  obtain ⟨m, rfl⟩ : ∃ q, m = q + 1 := ⟨m - 1, by omega⟩
  simp [List.replicate_succ]
theorem mid_atI (l : List Int) (m k : Nat) (z : Int) (hk : l.length = k) (hm : 0 < m) : (iarr (l ++ List.replicate m z))[k]? = some (.int .i64 z) := by
  have : (l ++ List.replicate m z)[k]? = some z := by
    rw [List.getElem?_append_right (by omega), hk, Nat.sub_self, List.getElem?_replicate, if_pos (by omega)]
  rw [iarr, List.getElem?_toArray, List.getElem?_map, this]; rfl
theorem mid_atS (l : List Nat) (m k : Nat) (hk : l.length = k) (hm : 0 < m) : (sarr (l ++ List.replicate m 0))[k]? = some (.int .u64 0) := by
  have : (l ++ List.replicate m 0)[k]? = some 0 := by
    rw [List.getElem?_append_right (by omega), hk, Nat.sub_self, List.getElem?_replicate, if_pos (by omega)]
  rw [sarr, List.getElem?_toArray, List.getElem?_map, this]; rfl
theorem with0 (w : World) : Calls Tryz.prog 29 #[.int .u64 0, .int .i64 0] w fun e w' => e = .returned (.int .u64 (bset 0 0 : Nat)) ∧ w = w' := with_any 0 0 w (by omega) (by omega)
theorem treeTo_len (sets : List Nat) : ∀ r, (treeTo sets r).2.length = sets.length
  | 0 => by simp [treeTo]
  | r + 1 => by
    simp only [treeTo]
    split
    · simp [treeTo_len sets r]
    · exact treeTo_len sets r
theorem sarr_getD (l : List Nat) {k : Nat} (hk : k < l.length) : (sarr l)[k]? = some (.int .u64 (l.getD k 0 : Nat)) := by simp [sarr, hk, vs]
end Go.Proofs.Tg.Gx
end
section
/- Plain mathematics of an insertion sort by exchanges. -/
namespace Go.Gr
/-- The elements j - 1 and j are exchanged. -/
def swp (l : List Nat) (j : Nat) : List Nat := (l.set j (l.getD (j - 1) 0)).set (j - 1) (l.getD j 0)
theorem swp_len (l : List Nat) (j : Nat) : (swp l j).length = l.length := by simp [swp]
theorem swp_at {l : List Nat} {j : Nat} (h0 : 0 < j) (hj : j < l.length) (k : Nat) : (swp l j).getD k 0 = if k = j - 1 then l.getD j 0 else if k = j then l.getD (j - 1) 0 else l.getD k 0 := by
  unfold swp
  by_cases hk : k < l.length
  · simp only [List.getD_eq_getElem?_getD]
    rw [List.getElem?_set]
    by_cases h1 : j - 1 = k
    · rw [if_pos h1, if_pos (by simp; omega), if_pos h1.symm]; rfl
    · rw [if_neg h1, if_neg (fun e => h1 e.symm), List.getElem?_set]
      by_cases h2 : j = k
      · rw [if_pos h2, if_pos (by omega), if_pos h2.symm]; rfl
      · rw [if_neg h2, if_neg (fun e => h2 e.symm)]
  · have h1 : (((l.set j (l.getD (j - 1) 0)).set (j - 1) (l.getD j 0)).getD k 0) = 0 := by
      rw [List.getD_eq_getElem?_getD, List.getElem?_eq_none (by simp; omega)]; rfl
    rw [h1, if_neg (by omega), if_neg (by omega), List.getD_eq_getElem?_getD, List.getElem?_eq_none (by omega)]; rfl
theorem swp_perm {l : List Nat} {j : Nat} (h0 : 0 < j) (hj : j < l.length) : (swp l j).Perm l := by
  obtain ⟨a, x, y, b, rfl, ha⟩ : ∃ a x y b, l = a ++ x :: y :: b ∧ a.length = j - 1 := by
    refine ⟨l.take (j - 1), l[j - 1], l[j], l.drop (j + 1), ?_, by simp; omega⟩
    have h1 : l.drop (j - 1) = l[j - 1] :: l.drop j := by
      rw [List.drop_eq_getElem_cons (by omega), show j - 1 + 1 = j by omega]
    have h2 : l.drop j = l[j] :: l.drop (j + 1) := List.drop_eq_getElem_cons hj
    rw [← h2, ← h1, List.take_append_drop]
  have e : swp (a ++ x :: y :: b) j = a ++ y :: x :: b := by
    apply List.ext_getElem?
    intro k
    have hl : (swp (a ++ x :: y :: b) j).length = (a ++ y :: x :: b).length := by simp [swp_len]
    by_cases hk : k < (a ++ x :: y :: b).length
    · have := swp_at h0 hj k
      have g1 : (swp (a ++ x :: y :: b) j)[k]? = some ((swp (a ++ x :: y :: b) j).getD k 0) := by
        rw [List.getD_eq_getElem?_getD, List.getElem?_eq_getElem (by rw [swp_len]; exact hk)]; rfl
      rw [g1, this]
      have hx : (a ++ x :: y :: b).getD (j - 1) 0 = x := by rw [List.getD_eq_getElem?_getD, List.getElem?_append_right (by omega), ha, Nat.sub_self]; rfl
      have hy : (a ++ x :: y :: b).getD j 0 = y := by rw [List.getD_eq_getElem?_getD, List.getElem?_append_right (by omega), ha, show j - (j - 1) = 1 by omega]; rfl
      rw [hx, hy]
      by_cases e1 : k = j - 1
      · rw [if_pos e1, e1, List.getElem?_append_right (by omega), ha, Nat.sub_self]; rfl
      · by_cases e2 : k = j
        · rw [if_neg e1, if_pos e2, e2, List.getElem?_append_right (by omega), ha, show j - (j - 1) = 1 by omega]; rfl
        · rw [if_neg e1, if_neg e2, List.getD_eq_getElem?_getD]
          by_cases e3 : k < a.length
          · rw [List.getElem?_append_left e3, List.getElem?_append_left e3, List.getElem?_eq_getElem e3]; rfl
          · rw [List.getElem?_append_right (by omega), List.getElem?_append_right (by omega)]
            obtain ⟨q, hq⟩ : ∃ q, k - a.length = q + 2 := ⟨k - a.length - 2, by omega⟩
            rw [hq]
            simp only [List.getElem?_cons_succ]
            rw [List.getElem?_eq_getElem (by simp at hk; omega)]; rfl
    · rw [List.getElem?_eq_none (by rw [swp_len]; omega), List.getElem?_eq_none (by simp at hk ⊢; omega)]
  rw [e]
  exact List.Perm.append_left a (List.Perm.swap x y b)

/-- 'less' by a comparison, in every pair of indexes below i but those that end in j. -/
def sortedBut (cf : Nat → Nat → Int) (l : List Nat) (i j : Nat) : Prop := ∀ a b, a < b → b ≤ i → b ≠ j → ¬ cf (l.getD b 0) (l.getD a 0) < 0
def sortedTo (cf : Nat → Nat → Int) (l : List Nat) (i : Nat) : Prop := ∀ a b, a < b → b < i → ¬ cf (l.getD b 0) (l.getD a 0) < 0
structure Weak (cf : Nat → Nat → Int) : Prop where
  asym : ∀ x y, cf x y < 0 → ¬ cf y x < 0
  trans : ∀ x y z, ¬ cf y x < 0 → ¬ cf z y < 0 → ¬ cf z x < 0
theorem sortedBut_start {cf : Nat → Nat → Int} {l : List Nat} {i : Nat} (h : sortedTo cf l i) : sortedBut cf l i i := fun a b hab hb hne => h a b hab (by omega)
theorem sortedBut_swap {cf : Nat → Nat → Int} (hw : Weak cf) {l : List Nat} {i j : Nat} (h : sortedBut cf l i j) (h0 : 0 < j) (hji : j ≤ i) (hi : i < l.length) (hc : cf (l.getD j 0) (l.getD (j - 1) 0) < 0) : sortedBut cf (swp l j) i (j - 1) := by
  intro a b hab hb hne
  rw [swp_at h0 (by omega), swp_at h0 (by omega)]
  rw [if_neg hne]
  by_cases hbj : b = j
  · rw [if_pos hbj]
    by_cases ha : a = j - 1
    · rw [if_pos ha]; exact hw.asym _ _ hc
    · rw [if_neg ha, if_neg (by omega)]
      exact h a (j - 1) (by omega) (by omega) (by omega)
  · rw [if_neg hbj]
    by_cases ha : a = j - 1
    · rw [if_pos ha]; exact h j b (by omega) hb hbj
    · rw [if_neg ha]
      by_cases ha2 : a = j
      · rw [if_pos ha2]; exact h (j - 1) b (by omega) hb hbj
      · rw [if_neg ha2]; exact h a b hab hb hbj
theorem sortedBut_stop {cf : Nat → Nat → Int} (hw : Weak cf) {l : List Nat} {i j : Nat} (h : sortedBut cf l i j) (hc : j = 0 ∨ ¬ cf (l.getD j 0) (l.getD (j - 1) 0) < 0) : sortedTo cf l (i + 1) := by
  intro a b hab hb
  by_cases hbj : b = j
  · subst hbj
    rcases hc with hc | hc
    · omega
    · by_cases ha : a = b - 1
      · rw [ha]; exact hc
      · exact hw.trans _ _ _ (h a (b - 1) (by omega) (by omega) (by omega)) hc
  · exact h a b hab (by omega) hbj

/-- Slices are compared by their first element that differs, and a slice comes ahead of its continuations. -/
def cmpL : List Int → List Int → Int
  | [], [] => 0
  | [], _ :: _ => -1
  | _ :: _, [] => 1
  | a :: l, b :: m => if a < b then -1 else if b < a then 1 else cmpL l m
theorem cmpL_asym : ∀ x y, cmpL x y < 0 → ¬ cmpL y x < 0
  | [], [], h => by simp [cmpL] at h
  | [], _ :: _, _ => by simp [cmpL]
  | _ :: _, [], h => by simp [cmpL] at h
  | a :: l, b :: m, h => by
    unfold cmpL at h ⊢
    by_cases h1 : a < b
    · rw [if_neg (by omega), if_pos h1]; omega
    · rw [if_neg h1] at h
      by_cases h2 : b < a
      · rw [if_pos h2] at h; omega
      · rw [if_neg h2] at h
        rw [if_neg h2, if_neg h1]
        exact cmpL_asym l m h
theorem cmpL_trans : ∀ x y z, ¬ cmpL y x < 0 → ¬ cmpL z y < 0 → ¬ cmpL z x < 0
  | [], _, [], _, _ => by simp [cmpL]
  | [], _, _ :: _, _, _ => by simp [cmpL]
  | a :: l, [], z, h, _ => by simp [cmpL] at h
  | a :: l, b :: m, [], _, h => by simp [cmpL] at h
  | a :: l, b :: m, c :: n, h1, h2 => by
    unfold cmpL at h1 h2 ⊢
    by_cases p1 : b < a
    · rw [if_pos p1] at h1; omega
    · rw [if_neg p1] at h1
      by_cases q1 : c < b
      · rw [if_pos q1] at h2; omega
      · rw [if_neg q1] at h2
        rw [if_neg (by omega)]
        by_cases r1 : a < c
        · rw [if_pos r1]; omega
        · rw [if_neg r1]
          rw [if_neg (by omega)] at h1 h2
          exact cmpL_trans l m n h1 h2
end Go.Gr
end
section
/- slices.Compare at []int, and slices.SortFunc at a few slices. -/
namespace Go.Proofs.Tg.Gx
open Go.RowKit Go.Gr
set_option maxHeartbeats 1000000
set_option maxRecDepth 100000
theorem len_any (n : Nat) (w : World) (hn : n ≤ 12) : Calls Tryz.prog 130 #[.int .u64 n] w fun e w' => (∃ l : Int, e = .returned (.int .i64 l)) ∧ w = w' := by
  have d1 : decide ((4294967296 : Int) ≤ (n : Int)) = false := by simp; omega
  have d2 : decide ((65536 : Int) ≤ (n : Int)) = false := by simp; omega
  have d3 : decide ((256 : Int) ≤ (n : Int)) = false := by simp; omega
  have h8 : n < Lib.len8tab.size := by rw [Lib.len8tab_size]; omega
  go_enter Tryz.func130, Tryz.ntmps130
  go_wp2
  go_ret
  exact ⟨⟨_, rfl⟩, rfl⟩
/-- The values of slices that lie in a row: by a number for each. -/
def enc (F : Nat → Option Addr × Nat) (ls : Nat → List Int) (i : Nat) : Value := .slice (F i).1 (ls i).length (F i).2
def rarr (F : Nat → Option Addr × Nat) (ls : Nat → List Int) (l : List Nat) (rest : List Value) : Array Value := (l.map (enc F ls) ++ rest).toArray
theorem rarr_at (F : Nat → Option Addr × Nat) (ls : Nat → List Int) (l : List Nat) (rest : List Value) {k : Nat} (hk : k < l.length) : (rarr F ls l rest)[k]? = some (enc F ls (l.getD k 0)) := by
  rw [rarr, List.getElem?_toArray, List.getElem?_append_left (by simpa using hk), List.getElem?_map, List.getD_eq_getElem?_getD, List.getElem?_eq_getElem hk]; rfl
theorem rarr_set (F : Nat → Option Addr × Nat) (ls : Nat → List Int) (l : List Nat) (rest : List Value) {k : Nat} (hk : k < l.length) (i : Nat) : (rarr F ls l rest).setIfInBounds k (enc F ls i) = rarr F ls (l.set k i) rest := by
  simp only [rarr, List.setIfInBounds_toArray, List.map_set]
  rw [List.set_append_left _ _ (by simpa using hk)]
/-- The rows can be read in every world that has turned in the one block alone. -/
def RowsOk (w : World) (g : Nat) (F : Nat → Option Addr × Nat) (ls : Nat → List Int) : Prop := ∀ w', w.grownBy w' (some g) → ∀ i, Ints w' (F i).1 (ls i) ∧ (ls i).length ≤ 1000000
def RetSorted (g : Nat) (F : Nat → Option Addr × Nat) (ls : Nat → List Int) (l : List Nat) (rest : List Value) (w : World) (e : Ending) (w' : World) : Prop :=
  e = .returned (.tuple #[]) ∧ ∃ l', l'.Perm l ∧ sortedTo (fun i j => cmpL (ls i) (ls j)) l' l.length ∧ Blk w' g 50 (rarr F ls l' rest) ∧ w.grownBy w' (some g)
theorem weakL (ls : Nat → List Int) : Weak (fun i j => cmpL (ls i) (ls j)) := ⟨fun _ _ => cmpL_asym _ _, fun _ _ _ => cmpL_trans _ _ _⟩
end Go.Proofs.Tg.Gx
end
section
/- Sorting rows of the call's own. -/
namespace Go.Proofs.Tg.Gx
open Go.RowKit Go.Gr
set_option maxHeartbeats 1000000
set_option maxRecDepth 100000
/-- m rows of numbers, each the call's own. -/
def RowsIn (w : World) (base m : Nat) (F : Nat → Option Addr × Nat) (ls : Nat → List Int) : Prop := ∀ i, i < m → w.ownsRow base 3 1 (enc F ls i) (ls i).length ((ls i).map vi)
def sortedL (lo : List (List Int)) : Prop := ∀ a b, a < b → b < lo.length → ¬ cmpL (lo.getD b []) (lo.getD a []) < 0
def cutF {α : Type} (F : Nat → α) (m : Nat) (z : α) : Nat → α := fun i => if i < m then F i else z
theorem map_cut (F : Nat → Option Addr × Nat) (ls : Nat → List Int) (m : Nat) : (List.range m).map (enc (cutF F m (none, 0)) (cutF ls m [])) = (List.range m).map (enc F ls) := by
  apply List.map_congr_left
  intro i hi
  have : i < m := by simpa using hi
  unfold enc cutF; rw [if_pos this, if_pos this]
end Go.Proofs.Tg.Gx
end
section
/- slices.ContainsFunc with the closure of Cliques. -/
namespace Go.Proofs.Tg.Gx
open Go.RowKit Go.Gr
set_option maxHeartbeats 1000000
set_option maxRecDepth 100000
end Go.Proofs.Tg.Gx
end
section
/- Cliques. -/
namespace Go.Gr
def cands (A : Nat → Nat) (n : Nat) : List Nat := List.zipWith bset (earlier A (search A n)) (search A n)
/-- The sets that are contained in no later one. -/
def keepLast : List Nat → List Nat
  | [] => []
  | s :: r => if (r.any fun t => decide (andn s t = 0)) = true then keepLast r else s :: keepLast r
def vertsI (s : Nat) : List Int := (verts s).map fun v : Nat => (v : Int)
theorem search_len {A : Nat → Nat} {n : Nat} (hn : n ≤ 64) : (search A n).length = n := (visits hn n (Nat.le_refl _)).len
theorem search_lt {A : Nat → Nat} {n : Nat} (hn : n ≤ 64) : ∀ v ∈ search A n, v < n := (visits hn n (Nat.le_refl _)).lt
theorem zip_at {l m : List Nat} {k : Nat} (h1 : k < l.length) (h2 : k < m.length) : (List.zipWith bset (l.take (k + 1)) (m.take (k + 1))) = List.zipWith bset (l.take k) (m.take k) ++ [bset l[k] m[k]] := by
  rw [List.take_succ_eq_append_getElem h1, List.take_succ_eq_append_getElem h2, List.zipWith_append (by simp; omega)]
  rfl
end Go.Gr
namespace Go.Proofs.Tg.Gx
open Go.RowKit Go.Gr
set_option maxHeartbeats 4000000
set_option maxRecDepth 100000
theorem rows_info : (Tryz.prog.info? 50).map (fun i => (i.zero, i.size, i.bytes)) = some (some (.slice none 0 0), 1, 24) := by kernel_rfl
theorem sets_at {w : World} {C : Option Addr} {N : Nat} {xs : List Nat} (h : Sl w C N 1 (xs.map vs)) (hN : xs.length = N) {k : Nat} (hk : k < N) : ∃ ad, C = some ad ∧ w.cell? (ad.add k) = some (.int .u64 (xs.getD k 0 : Nat)) := by
  subst hN
  obtain ⟨ad, e, hc⟩ := Sets.at h hk
  refine ⟨ad, e, ?_⟩
  rw [hc, List.getD_eq_getElem?_getD, List.getElem?_eq_getElem hk]; rfl
theorem drop_getD {xs : List Nat} {k : Nat} (hk : k < xs.length) : xs.drop k = xs.getD k 0 :: xs.drop (k + 1) := by
  rw [List.drop_eq_getElem_cons hk, List.getD_eq_getElem?_getD, List.getElem?_eq_getElem hk]; rfl
theorem getD_mem {xs : List Nat} {k : Nat} (hk : k < xs.length) : xs.getD k 0 ∈ xs := by
  rw [List.getD_eq_getElem?_getD, List.getElem?_eq_getElem hk]; exact List.getElem_mem _
theorem sl_cut {w : World} {ad : Addr} {N k : Nat} {xs : List Value} (h : Sl w (some ad) N 1 xs) : Sl w (some ⟨ad.block, ad.off + (k + 1), none⟩) (N - (k + 1)) 1 (xs.drop (k + 1)) := by
  refine ⟨by rw [List.length_drop, h.len]; omega, fun hn => ?_⟩
  obtain ⟨ad', e, hb, hc⟩ := h.lies (by omega)
  injection e with e
  subst e
  refine ⟨_, rfl, hb, fun j u hu => ?_⟩
  have := hc (k + 1 + j) u (by rw [← hu, List.getElem?_drop])
  rw [← add_add] at this
  have e2 : ad.add (k + 1) = ⟨ad.block, ad.off + (k + 1), none⟩ := by unfold Addr.add; rw [if_neg (by omega)]
  rwa [e2] at this
theorem sl_none {w : World} {A : Option Addr} {N k : Nat} {xs : List Value} (hx : xs.length = N) (h : N ≤ k + 1) : Sl w A (N - (k + 1)) 1 (xs.drop (k + 1)) :=
  ⟨by rw [List.length_drop]; omega, fun hn => by omega⟩
theorem RowsIn.kept {w w' : World} {base m : Nat} {F : Nat → Option Addr × Nat} {ls : Nat → List Int} {row : Option Nat} (h : RowsIn w base m F ls) (hg : w.grownBy w' row) (hne : ∀ i, i < m → (enc F ls i).ownBlock = none ∨ (enc F ls i).ownBlock ≠ row) : RowsIn w' base m F ls :=
  fun i hi => (h i hi).kept hg (hne i hi)
theorem RowsIn.below {w w' : World} {base m B : Nat} {F : Nat → Option Addr × Nat} {ls : Nat → List Int} (h : RowsIn w base m F ls) (hb : Below B w w') (hB : w.heap.size ≤ B) : RowsIn w' base m F ls := fun i hi => own_below (h i hi) hb hB
theorem RowsIn.alloc {w : World} {base m : Nat} {F : Nat → Option Addr × Nat} {ls : Nat → List Int} (h : RowsIn w base m F ls) (o : Obj) : RowsIn (w.alloc o) base m F ls := fun i hi => (h i hi).alloc o
def snocF {α : Type} (F : Nat → α) (m : Nat) (x : α) : Nat → α := fun i => if i = m then x else F i
theorem enc_snoc_lt (F : Nat → Option Addr × Nat) (ls : Nat → List Int) (m : Nat) (x : Option Addr × Nat) (l : List Int) {i : Nat} (h : i < m) : enc (snocF F m x) (snocF ls m l) i = enc F ls i := by
  unfold enc snocF; rw [if_neg (by omega), if_neg (by omega)]
theorem enc_snoc_eq (F : Nat → Option Addr × Nat) (ls : Nat → List Int) (m : Nat) (x : Option Addr × Nat) (l : List Int) : enc (snocF F m x) (snocF ls m l) m = .slice x.1 l.length x.2 := by
  unfold enc snocF; simp
theorem map_snoc (F : Nat → Option Addr × Nat) (ls : Nat → List Int) (m : Nat) (x : Option Addr × Nat) (l : List Int) : (List.range (m + 1)).map (enc (snocF F m x) (snocF ls m l)) = (List.range m).map (enc F ls) ++ [.slice x.1 l.length x.2] := by
  rw [List.range_succ, List.map_append]
  congr 1
  · apply List.map_congr_left
    intro i hi
    exact enc_snoc_lt _ _ _ _ _ (by simpa using hi)
  · simp [enc_snoc_eq]
theorem RowsIn.snoc {w : World} {base m : Nat} {F : Nat → Option Addr × Nat} {ls : Nat → List Int} (h : RowsIn w base m F ls) {x : Option Addr × Nat} {l : List Int} (hx : w.ownsRow base 3 1 (.slice x.1 l.length x.2) l.length (l.map vi)) : RowsIn w base (m + 1) (snocF F m x) (snocF ls m l) := by
  intro i hi
  by_cases e : i = m
  · subst e
    rw [enc_snoc_eq]
    have : snocF ls i l i = l := by simp [snocF]
    rw [this]; exact hx
  · rw [enc_snoc_lt _ _ _ _ _ (by omega)]
    have : snocF ls m l i = ls i := by simp [snocF, e]
    rw [this]; exact h i (by omega)
end Go.Proofs.Tg.Gx
end
